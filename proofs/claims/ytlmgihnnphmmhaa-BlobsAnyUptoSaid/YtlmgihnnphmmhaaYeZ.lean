/- disk: Burst, walked. -/
import Derived.Test.YtlmgihnnphmmhaaYdZ
namespace Go.Proofs.Ytlmgihnnphmmhaa
open Go.RowKit Go.Maps
set_option linter.unusedVariables false
set_option linter.unusedSimpArgs false

section
variable {B : Nat} {w : World} {D : Nat} {d : DkS} {O : Nat → Prop}
def DbPost (B : Nat) (w : World) (D : Nat) (d : DkS) (O : Nat → Prop) (s : Nat) (bit : Int) (pat : Nat) (e : Ending) (w' : World) : Prop :=
  (∃ r, e = .returned (.bool r)) ∧ ∃ d' O', DkAt B w' D d' O' ∧ BurstOf d d' s bit pat ∧ d'.S = d.S ∧ d'.off = d.off ∧ Off O w w' ∧ ∀ g, O' g → O g ∨ w.heap.size ≤ g
/-- The disk in the midst of Burst. -/
structure BuIn (B : Nat) (w wr : World) (D Kb Mb : Nat) (pv : Value) (P : List (Nat × Bytes × Value)) (kv : Nat → Value) (Da O : Nat → Prop) (d : DkS) (s : Nat) (bit : Int) (pat : Nat) (j : Nat) (P' : List (Nat × Bytes × Value)) (Da' : Nat → Prop) : Prop where
  inn : DkIn B wr D Kb Mb pv P' kv Da' ⟨d.S, d.z, setKept d.kept s (burstB (d.keptB s) bit pat), P'.map fun p => (p.1, p.2.1), d.off⟩
  pend : PendTo d.pend (P'.map fun p => (p.1, p.2.1)) s (fun L => burstB L bit pat) j
  da : ∀ g, Da' g → Da g ∨ (w.heap.size ≤ g ∧ g < wr.heap.size)
  off : Off O w wr
end
theorem BuIn.start {B : Nat} {w w3 : World} {D Kb Mb : Nat} {pv : Value} {P : List (Nat × Bytes × Value)} {kv : Nat → Value} {Da O : Nat → Prop} {d : DkS} {s : Nat} {bit : Int} {pat : Nat} {G c : Nat} (hi : DkIn B w D Kb Mb pv P kv Da d) (hO : ∀ g, MutD D Kb Mb pv g ∨ Da g → O g) (hO2 : ∀ g, O g → B ≤ g ∧ g < w.heap.size) (hs : s < d.S) (hb : Below w.heap.size w w3) (hsb : SBy w3 (some ⟨G, 0, none⟩) d.z (burstB (d.keptB s) bit pat)) (hc : d.z ≤ c) (hG : w.heap.size ≤ G) :
    BuIn B w (w3.setCell ⟨Kb, s, none⟩ (.slice (some ⟨G, 0, none⟩) d.z c)) D Kb Mb pv P (fun k => if k = s then .slice (some ⟨G, 0, none⟩) d.z c else kv k) Da O d s bit pat 0 P (fun g => Da g ∨ g = G) := by
  have h1 : DkIn B w3 D Kb Mb pv P kv Da d := hi.off (S := fun _ => False) (Off.of_below hb) (fun _ _ => id)
  have hmut : ∀ g, MutD D Kb Mb pv g → g < w.heap.size := fun g hg => (hO2 g (hO g (.inl hg))).2
  have hGl : G < w3.heap.size := by
    obtain ⟨b, o, e, hb2, _⟩ := hsb.2 hi.bz.1
    injection e with e
    injection e with e1 e2
    rw [e1]; exact hb2
  have h2 := h1.wide (Da' := fun g => Da g ∨ g = G) (fun g => .inl) (fun g hg hm => by
    rcases hg with hg | hg
    · exact hi.da g hg hm
    · have := hmut g hm; omega)
  obtain ⟨h3, h4⟩ := h2.setK (s := s) (v := .slice (some ⟨G, 0, none⟩) d.z c) (L := burstB (d.keptB s) bit pat) hs ⟨G, 0, c, rfl, hc, .inr rfl, hsb⟩
  refine ⟨?_, ?_, fun g hg => ?_, ?_⟩
  · have e := hi.pd
    rw [← e]
    exact h3
  · have e := hi.pd
    rw [← e]
    exact PendTo.start _ _ _
  · rcases hg with hg | hg
    · exact .inl hg
    · exact .inr (by rw [hg]; exact ⟨hG, Nat.lt_of_lt_of_le hGl h4.size⟩)
  · exact ((Off.of_below (S := O) hb)).trans (h4.mono fun g hg => by rw [hg]; exact hO _ (.inl (.inr (.inl rfl))))
section
variable {B : Nat} {w wr w4 : World} {D Kb Mb : Nat} {pv : Value} {P P' : List (Nat × Bytes × Value)} {kv : Nat → Value} {Da Da' O : Nat → Prop} {d : DkS} {s j : Nat} {bit : Int} {pat : Nat}
theorem BuIn.up (h : BuIn B w wr D Kb Mb pv P kv Da O d s bit pat j P' Da') (hb : Below wr.heap.size wr w4) : BuIn B w w4 D Kb Mb pv P kv Da O d s bit pat j P' Da' :=
  ⟨h.inn.off (S := fun _ => False) (Off.of_below hb) (fun _ _ => id), h.pend, fun g hg => (h.da g hg).imp id fun e => ⟨e.1, Nat.lt_of_lt_of_le e.2 hb.size⟩, h.off.step hb⟩
theorem BuIn.at_ (h : BuIn B w wr D Kb Mb pv P kv Da O d s bit pat j P' Da') {p : Nat × Bytes × Value} (hp : P'[j]? = some p) : d.pend[j]? = some (p.1, p.2.1) := by
  rw [← h.pend.hi j (Nat.le_refl _), List.getElem?_map, hp]
  rfl
theorem BuIn.skip (h : BuIn B w wr D Kb Mb pv P kv Da O d s bit pat j P' Da') {p : Nat × Bytes × Value} (hp : P'[j]? = some p) (hs : p.1 ≠ s) : BuIn B w wr D Kb Mb pv P kv Da O d s bit pat (j + 1) P' Da' :=
  ⟨h.inn, h.pend.skip (h.at_ hp) hs, h.da, h.off⟩
theorem BuIn.step (h : BuIn B w wr D Kb Mb pv P kv Da O d s bit pat j P' Da') (hO : ∀ g, MutD D Kb Mb pv g ∨ Da g → O g) (hO2 : ∀ g, O g → B ≤ g ∧ g < w.heap.size) {p : Nat × Bytes × Value} (hp : P'[j]? = some p) (hs : p.1 = s) {pg n cap G c : Nat} (hpv : pv = .slice (some ⟨pg, 0, none⟩) n cap) (hb : Below wr.heap.size wr w4) (hsb : SBy w4 (some ⟨G, 0, none⟩) d.z (burstB p.2.1 bit pat)) (hc : d.z ≤ c) (hG : wr.heap.size ≤ G) :
    BuIn B w (w4.setCell ⟨pg, j * 2 + 1, none⟩ (.slice (some ⟨G, 0, none⟩) d.z c)) D Kb Mb pv P kv Da O d s bit pat (j + 1) (P'.set j (p.1, burstB p.2.1 bit pat, .slice (some ⟨G, 0, none⟩) d.z c)) (fun g => Da' g ∨ g = G) := by
  have h1 := h.up hb
  have hsz := h.off.size
  have hmut : ∀ g, MutD D Kb Mb pv g → g < w.heap.size := fun g hg => (hO2 g (hO g (.inl hg))).2
  have hGl : G < w4.heap.size := by
    obtain ⟨b, o, e, hb2, _⟩ := hsb.2 h.inn.bz.1
    injection e with e
    injection e with e1 e2
    rw [e1]; exact hb2
  have h2 := h1.inn.wide (Da' := fun g => Da' g ∨ g = G) (fun g => .inl) (fun g hg hm => by
    rcases hg with hg | hg
    · exact h.inn.da g hg hm
    · have := hmut g hm; omega)
  obtain ⟨h3, h4⟩ := h2.setP (j := j) (v := .slice (some ⟨G, 0, none⟩) d.z c) (L := burstB p.2.1 bit pat) hpv hp ⟨G, 0, c, rfl, hc, .inr rfl, hsb⟩
  have e : (P'.set j (p.1, burstB p.2.1 bit pat, Value.slice (some ⟨G, 0, none⟩) d.z c)).map (fun p => (p.1, p.2.1)) = (P'.map fun p => (p.1, p.2.1)).set j (p.1, burstB p.2.1 bit pat) := by rw [List.map_set]
  refine ⟨?_, ?_, fun g hg => ?_, ?_⟩
  · rw [e]
    exact h3
  · rw [e]
    exact h.pend.step (h.at_ hp) hs
  · rcases hg with hg | hg
    · exact (h1.da g hg).imp id fun e => ⟨e.1, Nat.lt_of_lt_of_le e.2 h4.size⟩
    · exact .inr (by rw [hg]; exact ⟨by omega, Nat.lt_of_lt_of_le hGl h4.size⟩)
  · exact h1.off.trans (h4.mono fun g hg => by rw [hg]; exact hO _ (.inl (.inr (.inr (.inr (by rw [hpv]; rfl))))))
/-- All is done. -/
theorem BuIn.done (h : BuIn B w wr D Kb Mb pv P kv Da O d s bit pat d.pend.length P' Da') (hO : ∀ g, MutD D Kb Mb pv g ∨ Da g → O g) (hO2 : ∀ g, O g → B ≤ g ∧ g < w.heap.size) (hB : B ≤ w.heap.size) (r : Bool) : DbPost B w D d O s bit pat (.returned (.bool r)) wr := by
  refine ⟨⟨_, rfl⟩, _, (fun g => O g ∨ Da' g), ⟨Kb, Mb, pv, P', kv, Da', h.inn, fun g hg => ?_, fun g hg => ?_⟩, h.pend.burst d.off, rfl, rfl, h.off, fun g hg => ?_⟩
  · rcases hg with hg | hg
    · exact .inl (hO g (.inl hg))
    · exact .inr hg
  · rcases hg with hg | hg
    · have := hO2 g hg; exact ⟨this.1, Nat.lt_of_lt_of_le this.2 h.off.size⟩
    · rcases h.da g hg with h1 | h1
      · have := hO2 g (hO g (.inr h1)); exact ⟨this.1, Nat.lt_of_lt_of_le this.2 h.off.size⟩
      · exact ⟨by omega, h1.2⟩
  · rcases hg with hg | hg
    · exact .inl hg
    · rcases h.da g hg with h1 | h1
      · exact .inl (hO g (.inr h1))
      · exact .inr h1.1
end
section
variable {B : Nat} {w : World} {D : Nat} {d : DkS} {O : Nat → Prop}
set_option maxRecDepth 100000 in
set_option maxHeartbeats 4000000 in
theorem dkBurst_any (h : DkAt B w D d O) {s : Nat} (hs : s < d.S) {bit : Int} (hbit : -9223372036854775808 ≤ bit ∧ bit ≤ 9223372036854775807) {pat : Nat} (hp : pat < 4294967296) :
    Calls Try.prog 38 #[.pointer (some ⟨D, 0, none⟩), .int .i64 (s : Nat), .int .i64 bit, .int .u32 (pat : Nat)] w (DbPost B w D d O s bit pat) := by
  have H := Lib.hid h
  have HBY := Lib.hid (dkBytes_any h hs)
  obtain ⟨Kb, Mb, pv, P, kv, Da, hi, hO, hO2⟩ := h
  have HTh := Lib.hid (dkThere_any (s := (s : Int)) hi.c4)
  rw [show decide (0 ≤ (s : Int) ∧ (s : Int) < (d.S : Int)) = true by simp [hs]] at HTh
  have hbz := hi.bz
  by_cases hneg : bit < 0
  · have HF : Hid (∀ r : Bool, DbPost B w D d O s bit pat (.returned (.bool r)) w) := fun r => ⟨⟨_, rfl⟩, d, O, H.out, BurstOf.neg d s hneg pat, rfl, rfl, Off.refl _ _, fun g => .inl⟩
    clear hi hO hO2 H HBY
    go_enter Try.func38, Try.ntmps38
    go_wp2_with fail
    refine HTh.out.mono ?_
    rintro _ w ⟨rfl, rfl⟩
    clear HTh
    go_wp2
    go_ret
    exact HF.out _
  · have hneg' : ¬ bit < 0 := hneg
    have hlD := (hi.lens).1
    have hlK := (hi.lens).2.1
    have c4 := hi.c4
    have kc := hi.kc s hs
    have kf := hi.kf s
    have HI := Lib.hid hi
    have HO := Lib.hid hO
    have HO2 := Lib.hid hO2
    have HR : Hid (∀ w', Below w.heap.size w w' → w'.cell? ⟨D, 4, none⟩ = some (.slice (some ⟨Kb, 0, none⟩) d.S d.S) ∧ w'.cell? ⟨Kb, s, none⟩ = some (kv s) ∧ w'.frozen? ⟨Kb, s, none⟩ = false) := fun w' hb =>
      ⟨(hb.cell (p := ⟨D, 4, none⟩) hlD).trans c4, (hb.cell (p := ⟨Kb, s, none⟩) hlK).trans kc, (hb.frozen (p := ⟨Kb, s, none⟩) hlK).trans kf⟩
    have HBU : Hid (∀ (w' : World) (A : Option Addr) (c : Nat), FrB w.drew w' (.slice A d.z c) (d.keptB s) → Calls Try.prog 71 #[.slice A d.z c, .int .i64 bit, .int .u32 (pat : Nat)] w' (BuPost w' d.z (burstB (d.keptB s) bit pat))) := fun w' A c hf => burst_any w' A d.z c (d.keptB s) hf.sby (by omega) hbit hp
    have HBY2 : Hid (Calls Try.prog 59 #[.pointer (some ⟨D, 0, none⟩), .int .i64 (s : Nat)] w.drew fun e w' => ∃ A' c', e = .returned (.slice A' d.z c') ∧ FrB w.drew w' (.slice A' d.z c') (d.keptB s)) := dkBytes_any (H.out.up (Below.refl _ _).drew) hs
    have i1 : (s : Int) < (d.S : Int) := by omega
    have i2 : (0 : Int) ≤ (s : Int) := by omega
    clear hi hO hO2 HBY hneg
    go_enter Try.func38, Try.ntmps38
    go_wp2_with fail
    refine HTh.out.mono ?_
    rintro _ w ⟨rfl, rfl⟩
    clear HTh
    go_upto_region 3 with (fail)
    go_region_law (first
      | (go_simp; go_at_call 59; refine HBY2.out.mono ?_; rintro _ w2 ⟨A2, c2, rfl, hf2⟩; have HF2 := Lib.hid hf2; have HB2 : Hid (Below w.heap.size w w2) := ((Below.refl _ _).drew).trans hf2.bel; obtain ⟨c42, kc2, kf2⟩ := HR.out w2 HB2.out; clear hf2)
      | (go_simp; go_at_call 71; refine (HBU.out w2 A2 c2 HF2.out).mono ?_; rintro _ w3 ⟨G3, c3, rfl, hsb3, hcc3, hG3, hb3⟩; have HSB3 := Lib.hid hsb3; have HB3 : Hid (Below w.heap.size w w3) := below_upto HB2.out hb3 (Nat.le_refl _); obtain ⟨c43, kc3, kf3⟩ := HR.out w3 HB3.out; have hG3' : w.heap.size ≤ G3 := Nat.le_trans HB2.out.size hG3; clear hsb3 hb3))
    all_goals
      have HST := Lib.hid (BuIn.start HI.out HO.out HO2.out hs HB3.out HSB3.out hcc3 hG3')
      go_upto_region 4 with (fail)
      refine wp_forget (fun W => BuIn B w W D Kb Mb pv P (fun k => if k = s then .slice (some ⟨G3, 0, none⟩) d.z c3 else kv k) Da O d s bit pat 0 P (fun g => Da g ∨ g = G3)) HST.out ?_
      clear HST HSB3 HB3 HB2 HF2 HBU HBY2 HR kc kf c4 c42 kc2 kf2 c43 kc3 kf3
      rintro W4 hbu
      obtain ⟨pA, pc, hpv, hpl⟩ : ∃ pA pc, pv = .slice pA P.length pc ∧ P.length ≤ maxLen := by
        rcases HI.out.row.2 with ⟨hh, h0⟩ | ⟨g, cap, cur, hh, _, _, h1, h2, _⟩
        · exact ⟨_, _, by rw [hh, h0], by rw [h0]; exact Nat.zero_le _⟩
        · exact ⟨_, _, hh, by omega⟩
      unfold maxLen at hpl
      have c5 := hbu.inn.c5
      rw [hpv] at c5
      have HPV := Lib.hid hpv
      have HBU := Lib.hid hbu
      have hPd : d.pend.length = P.length := by rw [HI.out.pd, List.length_map]
      have HPD := Lib.hid hPd
      clear hbu hpv hPd
      go_wp2_with fail
      go_loopw [36] (fun i wr => ∃ (j : Nat) (P' : List (Nat × Bytes × Value)) (Da' : Nat → Prop), j ≤ P.length ∧ i = .int .i64 (j : Nat) ∧ BuIn B w wr D Kb Mb pv P (fun k => if k = s then .slice (some ⟨G3, 0, none⟩) d.z c3 else kv k) Da O d s bit pat j P' Da') (fun i _ => P.length - (intOf i).toNat)
      case atStart => exact ⟨0, _, _, Nat.zero_le _, rfl, HBU.out⟩
      case round =>
        obtain ⟨j, P', Da', hj, rfl, hbu⟩ := hrel
        have HBJ := Lib.hid hbu
        clear HBU c5
        have hPl : P'.length = P.length := by have h := hbu.pend.len; rw [List.length_map, HPD.out] at h; exact h
        by_cases hlt : j < P.length
        · obtain ⟨p, hp⟩ : ∃ p, P'[j]? = some p := ⟨_, List.getElem?_eq_getElem (by omega)⟩
          obtain ⟨G, cap, hG, hcap, _⟩ := World.ownsRow.form hbu.inn.row (show 0 < P'.length by omega)
          have k0 := World.ownsRow.cells hbu.inn.row (g := G) (by rw [hG]; rfl) (j * 2) _ (pcells_at _ j _ hp).1
          have k1 := World.ownsRow.cells hbu.inn.row (g := G) (by rw [hG]; rfl) (j * 2 + 1) _ (pcells_at _ j _ hp).2
          rw [show ∀ i, (⟨G, 0, none⟩ : Addr).add i = ⟨G, i, none⟩ from fun i => by unfold Addr.add; split <;> simp_all] at k0 k1
          have lG := (hbu.inn.lens.2.2.2 G (by rw [hG]; rfl)).2
          have hGv := hG
          rw [HPV.out] at hG
          injection hG with e1 e2 e3
          subst e1
          obtain ⟨hps, hpb⟩ := hbu.inn.pb p (List.mem_of_getElem? hp)
          obtain ⟨pg, po, pcc, hpv2, hpc2, hpd2, hps2⟩ := hpb
          rw [hpv2] at k1
          have HP := Lib.hid hp
          have HGV := Lib.hid hGv
          have u0 : (j : Int) < (P.length : Int) := by omega
          have HSB := Lib.hid hps2
          have HVV := Lib.hid hpv2
          clear hbu hp e2 e3 hcap hpv2 hGv hps2 hpd2
          go_upto_region 7 with (fail)
          have hal : Below wr.heap.size wr (wr.alloc (.cells #[.int .i64 (p.1 : Nat), .slice (some ⟨pg, po, none⟩) d.z pcc] 111)) := (Below.refl _ _).alloc (Nat.le_refl _) _
          have b1 := heap_alloc_new wr (.cells #[.int .i64 (p.1 : Nat), .slice (some ⟨pg, po, none⟩) d.z pcc] 111)
          have HFZ := (HBJ.out.inn.row)
          rw [HGV.out] at HFZ
          have fz := World.ownsRow.frozenAt HFZ (j * 2 + 1)
          refine wp_forget (fun V => BuIn B w V D Kb Mb pv P (fun k => if k = s then .slice (some ⟨G3, 0, none⟩) d.z c3 else kv k) Da O d s bit pat j P' Da' ∧ V.cell? ⟨wr.heap.size, 0, none⟩ = some (.int .i64 (p.1 : Nat)) ∧ V.cell? ⟨wr.heap.size, 1, none⟩ = some (.slice (some ⟨pg, po, none⟩) d.z pcc) ∧ wr.heap.size < V.heap.size ∧ V.cell? ⟨G, j * 2 + 1, none⟩ = some (.slice (some ⟨pg, po, none⟩) d.z pcc) ∧ V.frozen? ⟨G, j * 2 + 1, none⟩ = false ∧ G < V.heap.size ∧ SBy V (some ⟨pg, po, none⟩) d.z p.2.1)
            ⟨HBJ.out.up hal, by rw [cell_of_row _ _ _ _ _ _ b1]; rfl, by rw [cell_of_row _ _ _ _ _ _ b1]; rfl, by simp, (hal.cell (p := ⟨G, j * 2 + 1, none⟩) lG).trans k1, (hal.frozen (p := ⟨G, j * 2 + 1, none⟩) lG).trans fz, Nat.lt_of_lt_of_le lG hal.size, HSB.out.up hal⟩ ?_
          obtain ⟨Bx, hBx⟩ : ∃ Bx, Bx = wr.heap.size := ⟨_, rfl⟩
          rw [← hBx]
          clear hal b1 HFZ fz k0 k1 lG HSB HBJ hBx
          rintro V ⟨hbu, b0, b1, lb, kG, fG, lG, hsp⟩
          have HBV := Lib.hid hbu
          have c5 := hbu.inn.c5
          rw [HPV.out] at c5
          have lD := hbu.inn.lens.1
          clear hbu
          by_cases hps2 : p.1 = s
          · have q1 : ((p.1 : Int) == (s : Int)) = true := by rw [hps2]; simp
            have HRV : Hid (∀ w', Below V.heap.size V w' → w'.cell? ⟨D, 5, none⟩ = some (.slice (some ⟨G, 0, none⟩) P.length pc) ∧ w'.cell? ⟨Bx, 1, none⟩ = some (.slice (some ⟨pg, po, none⟩) d.z pcc) ∧ w'.cell? ⟨G, j * 2 + 1, none⟩ = some (.slice (some ⟨pg, po, none⟩) d.z pcc) ∧ w'.frozen? ⟨G, j * 2 + 1, none⟩ = false) := fun w' hb =>
              ⟨(hb.cell (p := ⟨D, 5, none⟩) lD).trans c5, (hb.cell (p := ⟨Bx, 1, none⟩) lb).trans b1, (hb.cell (p := ⟨G, j * 2 + 1, none⟩) lG).trans kG, (hb.frozen (p := ⟨G, j * 2 + 1, none⟩) lG).trans fG⟩
            have HBP : Hid (Calls Try.prog 71 #[.slice (some ⟨pg, po, none⟩) d.z pcc, .int .i64 bit, .int .u32 (pat : Nat)] V.drew (BuPost V.drew d.z (burstB p.2.1 bit pat))) := burst_any V.drew (some ⟨pg, po, none⟩) d.z pcc p.2.1 hsp.drew (by omega) hbit hp
            have u2 : (0 : Int) ≤ (j : Int) := by omega
            have HPS := Lib.hid hps2
            clear hps2 hsp
            go_upto_region 8 with (fail)
            go_region_law (first
              | (go_simp; go_at_call 71; refine HBP.out.mono ?_; rintro _ w5 ⟨G5, c6, rfl, hsb5, hcc5, hG5, hb5⟩; have HSB5 := Lib.hid hsb5; have HB5 : Hid (Below V.heap.size V w5) := ((Below.refl _ _).drew).trans hb5; obtain ⟨c55, b15, kG5, fG5⟩ := HRV.out w5 HB5.out; have hG5' : V.heap.size ≤ G5 := hG5; clear hsb5 hb5))
            all_goals
              have HNX := Lib.hid (HBV.out.step HO.out HO2.out HP.out HPS.out HPV.out HB5.out HSB5.out hcc5 hG5')
              clear HRV HBP c55 b15 kG5 fG5 HB5 HSB5 HBV c5 b0 b1 kG fG
              go_wp2
              go_roundw
              case rel => exact ⟨j + 1, _, _, by omega, by go_num, HNX.out⟩
              case measure => simp [intOf]; omega
          · have q1 : ((p.1 : Int) == (s : Int)) = false := beq_eq_false_iff_ne.2 (by omega)
            have HNX := Lib.hid (HBV.out.skip HP.out hps2)
            clear hps2 hsp HBV
            go_wp2
            go_roundw
            case rel => exact ⟨j + 1, _, _, by omega, by go_num, HNX.out⟩
            case measure => simp [intOf]; omega
        · obtain rfl : j = P.length := by omega
          have hje : ¬ (P.length : Int) < (P.length : Int) := by omega
          have hB : B ≤ w.heap.size := by have h1 := HO2.out D (HO.out D (.inl (.inl rfl))); omega
          have HFN : Hid (∀ r, DbPost B w D d O s bit pat (.returned (.bool r)) wr) := fun r => by
            have h := hbu
            rw [← HPD.out] at h
            exact h.done HO.out HO2.out hB r
          clear hbu HBJ
          go_wp2
          go_ret
          exact HFN.out _
end
end Go.Proofs.Ytlmgihnnphmmhaa
