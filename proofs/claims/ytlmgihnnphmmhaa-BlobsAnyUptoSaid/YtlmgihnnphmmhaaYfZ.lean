/- disk: Of. -/
import Derived.Test.YtlmgihnnphmmhaaYdZ
import Derived.Test.YtlmgihnnphmmhaaMC
import Derived.Deep.RegionLaw
namespace Go.Proofs.Ytlmgihnnphmmhaa
open Go.RowKit Go.Maps
set_option linter.unusedVariables false
set_option linter.unusedSimpArgs false

/-- A kept sector is set to new bytes. -/
theorem DkIn.newK {B : Nat} {w w3 : World} {D Kb Mb : Nat} {pv : Value} {P : List (Nat × Bytes × Value)} {kv : Nat → Value} {Da O : Nat → Prop} {d : DkS} {s G c : Nat} {L : Bytes} (hi : DkIn B w D Kb Mb pv P kv Da d) (hO : ∀ g, MutD D Kb Mb pv g ∨ Da g → O g) (hO2 : ∀ g, O g → B ≤ g ∧ g < w.heap.size) (hs : s < d.S) (hb : Below w.heap.size w w3) (hsb : SBy w3 (some ⟨G, 0, none⟩) d.z L) (hc : d.z ≤ c) (hG : w.heap.size ≤ G) :
    DkAt B (w3.setCell ⟨Kb, s, none⟩ (.slice (some ⟨G, 0, none⟩) d.z c)) D ⟨d.S, d.z, setKept d.kept s L, d.pend, d.off⟩ (fun g => O g ∨ g = G) ∧ Off O w (w3.setCell ⟨Kb, s, none⟩ (.slice (some ⟨G, 0, none⟩) d.z c)) := by
  have h1 : DkIn B w3 D Kb Mb pv P kv Da d := hi.off (S := fun _ => False) (Off.of_below hb) (fun _ _ => id)
  have hmut : ∀ g, MutD D Kb Mb pv g → g < w.heap.size := fun g hg => (hO2 g (hO g (.inl hg))).2
  have hBw : B ≤ w.heap.size := by have := hO2 D (hO D (.inl (.inl rfl))); omega
  have hGl : G < w3.heap.size := by
    obtain ⟨b, o, e, hb2, _⟩ := hsb.2 hi.bz.1
    injection e with e
    injection e with e1 e2
    rw [e1]; exact hb2
  have h2 := h1.wide (Da' := fun g => Da g ∨ g = G) (fun g => .inl) (fun g hg hm => by
    rcases hg with hg | hg
    · exact hi.da g hg hm
    · have := hmut g hm; omega)
  obtain ⟨h3, h4⟩ := h2.setK (s := s) (v := .slice (some ⟨G, 0, none⟩) d.z c) (L := L) hs ⟨G, 0, c, rfl, hc, .inr rfl, hsb⟩
  refine ⟨⟨Kb, Mb, pv, P, _, _, h3, fun g hg => ?_, fun g hg => ?_⟩, ?_⟩
  · rcases hg with hg | hg | hg
    · exact .inl (hO g (.inl hg))
    · exact .inl (hO g (.inr hg))
    · exact .inr hg
  · have hsz := h4.size
    have hsz2 := hb.size
    rcases hg with hg | hg
    · have := hO2 g hg; exact ⟨this.1, by omega⟩
    · exact ⟨by omega, by omega⟩
  · exact ((Off.of_below (S := O) hb)).trans (h4.mono fun g hg => by rw [hg]; exact hO _ (.inl (.inr (.inl rfl))))
def OfD (B : Nat) (w : World) (D S z : Nat) : Prop := ∃ d O, DkAt B w D d O ∧ d.S = S ∧ d.z = z ∧ d.off = false
def OfPost (w : World) (S z : Nat) (e : Ending) (w' : World) : Prop := ∃ D, e = .returned (.tuple #[.pointer (some ⟨D, 0, none⟩), .int .i64 0]) ∧ Below w.heap.size w w' ∧ OfD w.heap.size w' D S z
set_option maxRecDepth 100000 in
set_option maxHeartbeats 4000000 in
theorem dkOf_any (w : World) {S z : Nat} (h : 1 ≤ S ∧ S ≤ 65536 ∧ 64 ≤ z ∧ z ≤ 4096) {A : Option Addr} {c : Nat} {F : Bytes} (hF : SBy w A (S * z) F) (hc : S * z ≤ c) (hA : ∀ g o, A = some ⟨g, o, none⟩ → g < w.heap.size) :
    Calls Try.prog 35 #[.slice A (S * z) c, .int .i64 (z : Nat)] w (OfPost w S z) := by
  have HF := Lib.hid hF
  have HN := Lib.hid (dkNew_any w h)
  obtain ⟨n, hn⟩ : ∃ n, n = S * z := ⟨_, rfl⟩
  have hz0 : 0 < z := by omega
  have hn1 : 1 * 64 ≤ n := by rw [hn]; exact Nat.mul_le_mul h.1 h.2.2.1
  have hn2 : n ≤ 65536 * 4096 := by rw [hn]; exact Nat.mul_le_mul h.2.1 h.2.2.2
  have e1 : (n : Int).tmod (z : Int) = 0 := by
    rw [hn]
    have : ((S * z : Nat) : Int) = (S : Int) * (z : Int) := by simp
    rw [this]
    exact Int.mul_tmod_left _ _
  have e2 : (n : Int).tdiv (z : Int) = (S : Int) := by
    rw [hn]
    have : ((S * z : Nat) : Int) = (S : Int) * (z : Int) := by simp
    rw [this]
    exact Int.mul_tdiv_cancel _ (by omega)
  have e3 : (n : Int) / (z : Int) = (S : Int) := by rw [← e2, Int.tdiv_eq_ediv_of_nonneg (by omega)]
  have e4 : (n : Int) % (z : Int) = 0 := by rw [← e1, Int.tmod_eq_emod_of_nonneg (by omega)]
  have i1 : ¬ (z : Int) < 1 := by omega
  have i0 : ((z : Int) == 0) = false := beq_eq_false_iff_ne.2 (by omega)
  have i0' : ¬ (z : Int) = 0 := by omega
  have HNN := Lib.hid hn
  rw [← hn] at hc HF ⊢
  clear hF hn
  go_enter Try.func35, Try.ntmps35
  go_wp2_with fail
  refine HN.out.mono ?_
  rintro _ w1 ⟨D, rfl, hb1, O, hd⟩
  have HD0 : Hid (OfD w.heap.size w1 D S z) := ⟨_, O, hd, rfl, rfl, rfl⟩
  have HB1 := Lib.hid hb1
  have c4 : ∃ Kb, w1.cell? ⟨D, 4, none⟩ = some (.slice (some ⟨Kb, 0, none⟩) S S) := by
    obtain ⟨Kb, _, _, _, _, _, hi, _⟩ := hd
    exact ⟨Kb, hi.c4⟩
  obtain ⟨Kb0, c4⟩ := c4
  clear hd hb1 HN
  go_wp2_with fail
  clear c4
  go_loopw [35] (fun i wr => ∃ j : Nat, j ≤ S ∧ i = .int .i64 (j : Nat) ∧ Below w.heap.size w wr ∧ OfD w.heap.size wr D S z) (fun i _ => S - (intOf i).toNat)
  case atStart => exact ⟨0, Nat.zero_le _, rfl, HB1.out, HD0.out⟩
  case round =>
    obtain ⟨j, hj, rfl, hbw, d, O, hd, hS, hz, hof⟩ := hrel
    clear HD0 HB1
    have HBW := Lib.hid hbw
    have HOF := Lib.hid hof
    have HSZ := Lib.hid (And.intro hS hz)
    by_cases hlt : j < S
    · obtain ⟨Kb, Mb, pv, P, kv, Da, hi, hO, hO2⟩ := hd
      have c4 := hi.c4
      have kc := hi.kc j (by omega)
      have kf := hi.kf j
      have lD := hi.lens.1
      have lK := hi.lens.2.1
      have HI := Lib.hid hi
      have HO := Lib.hid hO
      have HO2 := Lib.hid hO2
      rw [hS] at c4
      have u0 : (j : Int) < (S : Int) := by omega
      have u1 : (0 : Int) ≤ (j : Int) := by omega
      obtain ⟨lo, hlo⟩ : ∃ lo, lo = j * z := ⟨_, rfl⟩
      have hhi : (j + 1) * z = lo + z := by rw [hlo, Nat.add_mul, Nat.one_mul]
      have hle : lo + z ≤ n := by
        have h1 : (j + 1) * z ≤ S * z := Nat.mul_le_mul_right _ hlt
        rw [hhi, ← HNN.out] at h1
        exact h1
      have f1 : IntKind.i64.wrap ((j : Int) * (z : Int)) = (lo : Int) := by
        have : (j : Int) * (z : Int) = (lo : Int) := by rw [hlo]; simp
        rw [this]
        exact IntWalk.i64_in _ (by omega)
      obtain ⟨up, hup⟩ : ∃ up, up = lo + z := ⟨_, rfl⟩
      have f2 : IntKind.i64.wrap (IntKind.i64.wrap ((j : Int) + 1) * (z : Int)) = (up : Int) := by
        have : ((j : Int) + 1) * (z : Int) = (up : Int) := by rw [hup, ← hhi]; simp
        rw [IntWalk.i64_in ((j : Int) + 1) (by omega), this]
        exact IntWalk.i64_in _ (by omega)
      obtain ⟨g, o, rfl, hg, _⟩ := HF.out.2 (by omega)
      have HSB : Hid (SBy wr.drew (some ⟨g, o + lo, none⟩) (up - lo) ((F.drop lo).take (up - lo))) := ((HF.out.up hbw).part lo up (by omega) (by omega)).drew
      have HCL := Lib.hid (clone_any wr.drew (some ⟨g, o + lo, none⟩) (up - lo) (c - lo) ((F.drop lo).take (up - lo)) HSB.out (by omega))
      have HR : Hid (∀ w', Below wr.heap.size wr w' → w'.cell? ⟨D, 4, none⟩ = some (.slice (some ⟨Kb, 0, none⟩) S S) ∧ w'.cell? ⟨Kb, j, none⟩ = some (kv j) ∧ w'.frozen? ⟨Kb, j, none⟩ = false) := fun w' hb =>
        ⟨(hb.cell (p := ⟨D, 4, none⟩) lD).trans c4, (hb.cell (p := ⟨Kb, j, none⟩) lK).trans kc, (hb.frozen (p := ⟨Kb, j, none⟩) lK).trans kf⟩
      have v1 : (lo : Int) ≤ (up : Int) := by omega
      have v1' : lo ≤ up := by omega
      have v2 : (up : Int) ≤ (c : Int) := by omega
      have v4 : (0 : Int) ≤ (up : Int) := by omega
      have v5 : ¬ c = lo := by omega
      have hulz : up - lo = z := by omega
      have HUL := Lib.hid hulz
      have v3 : (0 : Int) ≤ (lo : Int) := by omega
      clear hi hO hO2 hlo hhi hbw hof hS hz hup hulz
      go_upto_region 9 with (fail)
      go_region_law (first
        | (go_simp; go_at_call 58; refine HCL.out.mono ?_; rintro _ w3 ⟨A3, c3, rfl, hf3, hA3⟩; have HF3 := Lib.hid hf3; have HB3 : Hid (Below wr.heap.size wr w3) := ((Below.refl _ _).drew).trans hf3.bel; obtain ⟨c43, kc3, kf3⟩ := HR.out w3 HB3.out; clear hf3))
      all_goals
        have hf3 := HF3.out
        obtain ⟨G3, rfl⟩ := hA3 (by have := HUL.out; omega)
        have hG3 := (hf3.own.lt G3 rfl).1
        have hsb3 := hf3.sby
        have hcc3 := hf3.cap
        rw [HUL.out] at hsb3 hcc3 ⊢
        rw [← HSZ.out.2] at hsb3 hcc3
        obtain ⟨hd5, ho5⟩ := HI.out.newK HO.out HO2.out (s := j) (by rw [HSZ.out.1]; exact hlt) HB3.out hsb3 hcc3 hG3
        rw [HSZ.out.2] at hd5 ho5
        have HNX : Hid (Below w.heap.size w (w3.setCell ⟨Kb, j, none⟩ (.slice (some ⟨G3, 0, none⟩) z c3)) ∧ OfD w.heap.size (w3.setCell ⟨Kb, j, none⟩ (.slice (some ⟨G3, 0, none⟩) z c3)) D S z) := ⟨HBW.out.trans (ho5.below (fun g hg => (HO2.out g hg).1) HBW.out.size), _, _, hd5, HSZ.out.1, rfl, HOF.out⟩
        clear hd5 ho5 hsb3 hcc3 hf3 HF3 HB3 HR HCL HSB c43 kc3 kf3 hG3 hA3 c4 kc kf
        go_wp2
        go_roundw
        case rel => exact ⟨j + 1, by omega, by go_num, HNX.out.1, HNX.out.2⟩
        case measure => simp [intOf]; omega
    · obtain rfl : j = S := by omega
      have u0 : ¬ (j : Int) < (j : Int) := by omega
      have HFI : Hid (OfD w.heap.size wr D j z) := ⟨d, O, hd, hS, hz, hof⟩
      clear hd hS hz hof hbw
      go_wp2
      go_ret2
      exact ⟨D, rfl, HBW.out, HFI.out⟩
end Go.Proofs.Ytlmgihnnphmmhaa
