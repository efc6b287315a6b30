/- A pool of frames: Victim (picked out of frames' texts by pick.py). -/
import Derived.Test.YtmipngefpedfpaaKP
import Derived.Deep.AppendLies
import Derived.Deep.RegionHeld3
namespace Go.Proofs.Ytmipngefpedfpaa
open Go.RowKit Go.Maps
set_option linter.unusedVariables false
set_option linter.unusedSimpArgs false

/-- Is there one among the first k that may be given up? -/
def anyC (F : Nat → Fr) : Nat → Bool
  | 0 => false
  | k + 1 => anyC F k || ((F k).used && (F k).pins == 0)
theorem anyC_iff (F : Nat → Fr) (k : Nat) : anyC F k = true ↔ ∃ i, i < k ∧ (F i).used = true ∧ (F i).pins = 0 := by
  induction k with
  | zero => simp [anyC]
  | succ k ih =>
    unfold anyC
    rw [Bool.or_eq_true, ih]
    constructor
    · rintro (⟨i, h1, h2⟩ | h)
      · exact ⟨i, by omega, h2⟩
      · simp at h
        exact ⟨k, by omega, h⟩
    · rintro ⟨i, h1, h2, h3⟩
      rcases Nat.lt_or_ge i k with h | h
      · exact .inl ⟨i, h, h2, h3⟩
      · have : i = k := by omega
        subst this
        simp [h2, h3]
def Fr.cells (f : Fr) : List Value := [.int .i64 f.key, .bool f.used, .bool f.ref, .bool f.dirty, .int .i64 f.pins]
/-- The cells of the first t frames, one behind the other. -/
def rowF (F : Nat → Fr) : Nat → List Value
  | 0 => []
  | t + 1 => rowF F t ++ (F t).cells
theorem rowF_len (F : Nat → Fr) (t : Nat) : (rowF F t).length = t * 5 := by
  induction t with
  | zero => rfl
  | succ t ih => simp [rowF, ih, Fr.cells]; omega
theorem rowF_at (F : Nat → Fr) (t k r : Nat) (hk : k < t) (hr : r < 5) : (rowF F t)[k * 5 + r]? = (F k).cells[r]? := by
  induction t with
  | zero => omega
  | succ t ih =>
    unfold rowF
    rcases Nat.lt_or_ge k t with h | h
    · rw [List.getElem?_append_left (by rw [rowF_len]; omega), ih h]
    · have : k = t := by omega
      subst this
      rw [List.getElem?_append_right (by rw [rowF_len]; omega), rowF_len]
      congr 1
      omega
theorem rowF_one (F : Nat → Fr) (t : Nat) : ∀ u ∈ rowF F t, u.oneCell' = true := by
  induction t with
  | zero => simp [rowF]
  | succ t ih =>
    intro u hu
    unfold rowF at hu
    rcases List.mem_append.1 hu with h | h
    · exact ih u h
    · simp [Fr.cells] at h
      rcases h with rfl | rfl | rfl | rfl | rfl <;> rfl
theorem FrS.row {w : World} {B n : Nat} {F : Nat → Fr} (h : FrS w B n F) : ∀ j u, (rowF F n)[j]? = some u → w.cell? ((⟨B, 0, none⟩ : Addr).add j) = some u := by
  intro j u hu
  have hj : j < n * 5 := by
    have := (List.getElem?_eq_some_iff.1 hu).1
    rwa [rowF_len] at this
  have e : (⟨B, 0, none⟩ : Addr).add j = ⟨B, j, none⟩ := by
    unfold Addr.add
    split
    · rename_i h; rw [h]
    · simp
  have hq : j / 5 * 5 + j % 5 = j := by omega
  have hk : j / 5 < n := by omega
  have hf := h (j / 5) hk
  have hr := rowF_at F n (j / 5) (j % 5) hk (by omega)
  rw [hq, hu] at hr
  rw [e]
  have h5 : j % 5 = 0 ∨ j % 5 = 1 ∨ j % 5 = 2 ∨ j % 5 = 3 ∨ j % 5 = 4 := by omega
  rcases h5 with h5 | h5 | h5 | h5 | h5
  · have hc := hf.c0
    rw [h5] at hr hq
    rw [show j / 5 * 5 = j by omega] at hc
    rw [hc, hr]; rfl
  · have hc := hf.c1
    rw [h5] at hr hq
    rw [hq] at hc
    rw [hc, hr]; rfl
  · have hc := hf.c2
    rw [h5] at hr hq
    rw [hq] at hc
    rw [hc, hr]; rfl
  · have hc := hf.c3
    rw [h5] at hr hq
    rw [hq] at hc
    rw [hc, hr]; rfl
  · have hc := hf.c4
    rw [h5] at hr hq
    rw [hq] at hc
    rw [hc, hr]; rfl
theorem frS_own {w : World} {base e g n cap : Nat} {F : Nat → Fr} (h : w.ownsRow base e 5 (.slice (some ⟨g, 0, none⟩) n cap) n (rowF F n)) : FrS w g n F ∧ ∀ j, w.frozen? ⟨g, j, none⟩ = false := by
  refine ⟨fun i hi => ?_, fun j => h.frozenAt j⟩
  have e : ∀ r, r < 5 → w.cell? ⟨g, i * 5 + r, none⟩ = (F i).cells[r]? := fun r hr => by
    rw [h.cellAt (i * 5 + r) (by omega), rowF_at F n i r hi hr]
  exact ⟨e 0 (by omega), e 1 (by omega), e 2 (by omega), e 3 (by omega), e 4 (by omega)⟩
def ClonePost (n : Nat) (F : Nat → Fr) (w : World) (e : Ending) (w' : World) : Prop :=
  ∃ g cap, e = .returned (.slice (some ⟨g, 0, none⟩) n cap) ∧ FrS w' g n F ∧ (∀ j, w'.frozen? ⟨g, j, none⟩ = false) ∧ w.heap.size ≤ g ∧ Below w.heap.size w w'
set_option maxRecDepth 100000 in
set_option maxHeartbeats 1000000 in
theorem Clone_any (w : World) (B n K : Nat) (F : Nat → Fr) (hp : 0 < n) (hn : n ≤ 4096) (hF : FrS w B n F) :
    Calls Try.prog 48 #[.slice (some ⟨B, 0, none⟩) n K] w (ClonePost n F w) := by
  obtain ⟨i0, hi, hz0, hz1, hz2⟩ := info_parts frame_info
  have HF := Lib.hid hF
  have hB := lt_of_cell (hF 0 hp).c0
  clear hF
  have hnil := Lib.run_eql_slice_nil (P := Try.prog) w 92 97 (some ⟨B, 0, none⟩) n K 0 0 Try.underlying92
  go_enter Try.func48, Try.ntmps48
  go_wp2_with (at_builtin; go_must (refine wpList_append_lies _ rfl (.tmp 5) (.tmp 6) 92 rfl w.heap.size 97 i0 _ 5 24 Try.underlying92 hi hz0 hz1 hz2 rfl (by omega) _ 0 [] rfl (World.ownsRow_made w #[] 0 (Nat.le_refl _) (by unfold maxLen; omega) (by simp)) ⟨B, 0, none⟩ n K (rowF F n) rfl (rowF_len F n) (FrS.row (fun i hi => (HF.out i hi).up ((Below.refl _ _).alloc (Nat.le_refl _) _))) (rowF_one F n) hp (by unfold maxLen; omega) (by omega) (by simp) (w.heap.size + 1) (by simp) ?_); intro gg cap w1 hown hgrow hat hlt)
  simp only [List.nil_append, Nat.zero_add] at hown
  obtain ⟨f1, f2⟩ := frS_own hown
  have HX : Hid (ClonePost n F w (.returned (.slice (some ⟨gg, 0, none⟩) n cap)) w1) := by
    refine ⟨gg, cap, rfl, f1, f2, (hown.lt gg rfl).1, Below.grown ((Below.refl _ _).alloc (Nat.le_refl _) _) hgrow (by simp) fun k hk => ?_⟩
    have h1 : some w.heap.size = some k := hk
    have h2 := Option.some.inj h1
    omega
  clear hown hgrow hat hlt f1 f2
  go_wp2
  go_ret
  exact HX.out
theorem vic_cases {n h : Nat} {F : Nat → Fr} {g : Int → Option Nat} (I : KInv n F g) (hh : h < n) :
    (anyC F n = false ∧ (sw n (2 * n + 1) h F).1 = -1) ∨ ∃ r : Nat, anyC F n = true ∧ r < n ∧ sw n (2 * n + 1) h F = ((r : Int), (sw n (2 * n + 1) h F).2) := by
  cases hc : anyC F n
  · refine .inl ⟨rfl, ?_⟩
    obtain ⟨h1, h2⟩ := sw_form n (by omega) (2 * n + 1) h F hh
    rcases h2 with h2 | ⟨r, h2, h3, h4, h5⟩
    · exact h2
    · exfalso
      rw [h1.cand r] at h4
      have hp := I.pins r h3
      simp [Fr.cand] at h4
      have : anyC F n = true := (anyC_iff F n).2 ⟨r, h3, h4.1, by omega⟩
      rw [hc] at this
      cases this
  · obtain ⟨i, h1, h2, h3⟩ := (anyC_iff F n).1 hc
    obtain ⟨r, k1, k2, k3, k4⟩ := sw_some hh h1 (show (F i).cand = true by simp [Fr.cand, h2, h3])
    exact .inr ⟨r, rfl, k2, by rw [← k1]⟩
def vicV (i : Int) : Value := .tuple #[.int .i64 (if 0 ≤ i then i else 0), .bool (decide (0 ≤ i))]
def VPost (i : Int) (w : World) (e : Ending) (w' : World) : Prop := e = .returned (vicV i) ∧ Below w.heap.size w w'
section
variable {w : World} {P B M n K : Nat} {F : Nat → Fr} {h : Nat} {g : Int → Option Nat} {c : Nat}
set_option maxRecDepth 100000 in
set_option maxHeartbeats 4000000 in
theorem Victim_any (p : PoolAt w P B M n F h g c) (I : KInv n F g) :
    Calls Try.prog 33 #[.pointer (some ⟨P, 0, none⟩)] w (VPost (sw n (2 * n + 1) h F).1 w) := by
  have l0 := p.l0
  have l2 := p.l2
  have hn := p.most
  have hpos := p.pos
  have hh := p.hand
  have ltP := p.ltP
  have HV := Lib.hid (vic_cases I p.hand)
  have HC := Lib.hid (Clone_any w.drew B n n F p.pos p.most p.drew.fr)
  clear p I
  go_enter Try.func33, Try.ntmps33
  go_wp2
  go_region_held3 (fun w' => w'.cell? ⟨P, 0, none⟩ = some (.slice (some ⟨B, 0, none⟩) n n) ∧ w'.cell? ⟨P, 2, none⟩ = some (.int .i64 h))
    (first | exact ⟨K0, K1⟩ | go_keep)
    (first | (go_at_call 48; refine HC.out.mono ?_; rintro e w2 ⟨gg, cap, rfl, hfr, hfz, hge, hb⟩; have K0 := (hb.cell (p := ⟨P, 0, none⟩) ltP).trans l0; have K1 := (hb.cell (p := ⟨P, 2, none⟩) ltP).trans l2; have HFR := Lib.hid hfr; have HFZ := Lib.hid hfz; have HB := Lib.hid hb; clear hfr hfz hb) | (go_at_call 47; refine (sweep_any w2 gg n h F hn hpos hh HFR.out HFZ.out).mono ?_; rintro e w3 ⟨rfl, _, _, ho⟩; have K0 := (ho.cell (p := ⟨P, 0, none⟩) (lt_of_cell K0) (by show ¬ P = gg; simp at hge; omega)).trans K0; have K1 := (ho.cell (p := ⟨P, 2, none⟩) (lt_of_cell K1) (by show ¬ P = gg; simp at hge; omega)).trans K1; have HO := Lib.hid ho; clear ho))
  have HBB : Hid (Below w.heap.size w w3) := ((Below.refl _ _).drew.trans HB.out).trans (HO.out.below (fun k e => e ▸ hge) HB.out.size)
  clear HC HB HO HFR HFZ
  rcases HV.out with ⟨_, hv⟩ | ⟨r, _, hr, hv⟩
  · rw [hv]
    have HW := Lib.hid hv
    clear HV hv
    go_wp2
    go_ret2
    exact ⟨by rw [HW.out]; rfl, HBB.out⟩
  · have hv1 : (sw n (2 * n + 1) h F).1 = (r : Int) := by rw [hv]
    rw [hv1]
    have HW := Lib.hid hv1
    clear HV hv hv1
    go_wp2
    go_ret2
    exact ⟨by rw [HW.out]; unfold vicV; simp, HBB.out⟩
end
end Go.Proofs.Ytmipngefpedfpaa
