/- PagerPlays, walked. -/
import Derived.Test.YtmipngefpedfpaaXrZ
import Derived.Deep.RegionHeldLaw
namespace Go.Proofs.Ytmipngefpedfpaa
open Go.RowKit Go.Maps
set_option linter.unusedVariables false
set_option linter.unusedSimpArgs false

section
variable {w0 w w' w1 w2 : World} {Wb S : Nat} {d : PD} {t t' t1 t2 : PSt ShS} {R : Prop} {k k1 : Nat} {vi vb : Value} {xs : List Pe}
theorem Acs.cells5 {w : World} {g o n : Nat} {b : Nat → Ac} (hc : ∀ k, k < n → (∀ j v, (b k).cells[j]? = some v → w.cell? ⟨g, o + k * 5 + j, none⟩ = some v)) {k : Nat} (hk : k < n) :
    w.cell? ⟨g, o + k * 5, none⟩ = some (.int .i64 (b k).op) ∧ w.cell? ⟨g, o + k * 5 + 1, none⟩ = some (.int .i64 (b k).page) ∧ w.cell? ⟨g, o + k * 5 + 2, none⟩ = some (.int .i64 (b k).off) ∧ w.cell? ⟨g, o + k * 5 + 3, none⟩ = some (.int .i64 (b k).n) ∧ w.cell? ⟨g, o + k * 5 + 4, none⟩ = some (.slice (b k).A (b k).nb (b k).cb) :=
  ⟨hc k hk 0 _ rfl, hc k hk 1 _ rfl, hc k hk 2 _ rfl, hc k hk 3 _ rfl, hc k hk 4 _ rfl⟩
theorem Acs.at5 {W w : World} {A : Option Addr} {n : Nat} {b : Nat → Ac} (h : Acs W A n b) (hb : Below W.heap.size W w) {g o : Nat} (hA : A = some ⟨g, o, none⟩) {k : Nat} (hk : k < n) :
    w.cell? ⟨g, o + k * 5, none⟩ = some (.int .i64 (b k).op) ∧ w.cell? ⟨g, o + k * 5 + 1, none⟩ = some (.int .i64 (b k).page) ∧ w.cell? ⟨g, o + k * 5 + 2, none⟩ = some (.int .i64 (b k).off) ∧ w.cell? ⟨g, o + k * 5 + 3, none⟩ = some (.int .i64 (b k).n) ∧ w.cell? ⟨g, o + k * 5 + 4, none⟩ = some (.slice (b k).A (b k).nb (b k).cb) := by
  obtain ⟨g', o', e, hg, hc⟩ := (h.up hb) (by omega)
  rw [hA] at e
  injection e with e
  injection e with e1 e2
  subst e1
  subst e2
  exact Acs.cells5 (fun k hk => (hc k hk).1) hk
theorem Acs.some_ {W : World} {A : Option Addr} {n : Nat} {b : Nat → Ac} (h : Acs W A n b) (hn : 0 < n) : ∃ g o, A = some ⟨g, o, none⟩ ∧ g < W.heap.size := by
  obtain ⟨g, o, e, hg, _⟩ := h hn
  exact ⟨g, o, e, hg⟩
/-- The loop over the acts, so far. -/
structure PlW (wk wr : World) (Wb S : Nat) (d : PD) (j : Nat) (t : PSt ShS) (vi vb : Value) (xs : List Pe) : Prop where
  wa : WA wk wr Wb S d t True (950000 - 5000 * j) vi vb xs
  few : xs.length ≤ j
set_option maxRecDepth 100000 in
set_option maxHeartbeats 8000000 in
theorem plays_walk (W : World) {size held : Int} {A : Option Addr} {n c : Nat} {b : Nat → Ac} (h : Acs W A n b) (hn : n ≤ 9223372036854775807) :
    Calls Try.prog 5 #[.int .i64 size, .int .i64 held, .slice A n c] W fun e w' => e = .returned (.bool true) ∧ Below W.heap.size W w' := by
  have HP := Lib.hid h
  have HFW := Lib.hid (fun (w : World) (hb : Below W.heap.size W w) => few_any (c := c) (h.up hb) hn)
  clear h
  go_enter Try.func5, Try.ntmps5
  go_wp2_with fail
  refine (known_any _).mono ?_
  rintro e wk ⟨rfl, hb⟩
  have HB0 := Lib.hid hb
  have HF := Lib.hid (HFW.out _ hb)
  clear hb HFW
  go_upto_region 3 with (fail)
  go_cut [25] from 15 to 24 (fun v V => ∃ bb, v = .bool bb ∧ V = wk ∧ (bb = false → fewB b n = true ∧ ¬ (512 < size ∧ size ≤ 4096)))
  case first =>
    go_wp2_with fail
    refine HF.out.mono ?_
    rintro e w1 ⟨rfl, rfl⟩
    generalize fewB b n = fw at *
    cases fw with
    | false =>
      go_wp2_with fail
      go_meet
      exact ⟨true, rfl, rfl, fun e => by cases e⟩
    | true =>
      go_wp2_with fail
      all_goals
        go_meet
        first
          | exact ⟨_, rfl, rfl, fun _ => ⟨by trivial, by omega⟩⟩
          | exact ⟨_, rfl, rfl, fun e => ⟨by trivial, by have := of_decide_eq_false e; omega⟩⟩
  case rest =>
  obtain ⟨bb, rfl, hwk, hbb⟩ := hcut
  subst hwk
  cases bb with
  | true =>
    go_wp2
    go_ret
    exact ⟨rfl, HB0.out⟩
  | false =>
  obtain ⟨hf, h5⟩ := hbb rfl
  obtain ⟨hn150, hin⟩ := HP.out.in_ hf
  have HIN := Lib.hid (fun k hk => (hin k hk).up HB0.out)
  have HPK := Lib.hid (HP.out.up HB0.out)
  have HS5 := Lib.hid h5
  clear HF hf h5 hbb hin HP
  go_wp2_with fail
  refine (newShelf_any _).mono ?_
  rintro e w1 hs
  have HS := Lib.hid hs
  have he := hs.1
  subst he
  have HN := Lib.hid (pgNew_any (M := shM wc.heap.size) (P := shP) size held (shNew_in hs).1 (shNew_in hs).2)
  have HB1 := Lib.hid (bel2 HB0.out hs.2.1)
  clear hs
  go_wp2_with fail
  refine HN.out.mono ?_
  rintro e w2 (⟨rfl, hb2, hbad⟩ | ⟨d, t, rfl, hg, hp⟩)
  · have HB2 := Lib.hid (bel2 HB1.out hb2)
    clear HN HS hb2
    have hx : (decide (size < 16) || decide (4096 < size) || decide (held < 1) || decide (4096 < held)) = true := by
      rcases hbad with h | h | h | h <;> simp [h]
    clear hbad
    go_wp2
    all_goals
      first
        | (exfalso; simp at hx; omega)
        | (go_ret; exact ⟨rfl, HB2.out⟩)
  obtain ⟨z, rfl⟩ := Int.eq_ofNat_of_zero_le (show 0 ≤ size by omega)
  obtain ⟨m, rfl⟩ := Int.eq_ofNat_of_zero_le (show 0 ≤ held by omega)
  have hdz : d.z = z := by have := hp.z; simpa using this
  have hdn : d.n = m := by have := hp.n; simpa using this
  subst hdz
  subst hdn
  have hz : 16 ≤ d.z ∧ d.z ≤ 4096 := by omega
  have HWA := Lib.hid (wa_new (vw_new HS.out hp) hz hp.cm 51)
  obtain ⟨hz1, hz2⟩ := hz
  have x1 : decide ((d.z : Int) < 16) = false := decide_eq_false (by omega)
  have x2 : decide ((4096 : Int) < (d.z : Int)) = false := decide_eq_false (by omega)
  have x3 : decide ((d.n : Int) < 1) = false := decide_eq_false (by omega)
  have x4 : decide ((4096 : Int) < (d.n : Int)) = false := decide_eq_false (by omega)
  clear hp hg HN HS HB1 HS5
  generalize wc.heap.size = S at *
  go_upto_region 12 with (fail)
  refine wp_forget (fun V => WA wc V w2.heap.size S d t True 1000000 (.slice none 0 0) (.slice none 0 0) []) HWA.out ?_
  intro w3 hw3
  have HW3 := Lib.hid (show PlW wc w3 w2.heap.size S d 0 t (.slice none 0 0) (.slice none 0 0) [] from ⟨hw3.less (by omega), Nat.le_refl _⟩)
  clear hw3 HWA x1 x2 x3 x4
  generalize w2.heap.size = Wb at *
  go_wp2
  go_loopw [11] (fun iv wr => ∃ (j : Nat) (t : PSt ShS) (vi vb : Value) (xs : List Pe), j ≤ n ∧ iv = .int .i64 (j : Nat) ∧ PlW wc wr Wb S d j t vi vb xs) (fun iv _ => n - (intOf iv).toNat)
  case atStart => exact ⟨0, _, _, _, _, Nat.zero_le _, rfl, HW3.out⟩
  case round =>
    obtain ⟨j, t, vi, vb, xs, hj, rfl, hat⟩ := hrel
    have HAT := Lib.hid hat
    clear HW3 hat
    by_cases hjn : j < n
    · have hjI : (j : Int) < (n : Int) := by omega
      obtain ⟨g, o, rfl, hgl⟩ := HPK.out.some_ (by omega)
      have hk5 := HPK.out.at5 HAT.out.wa.vw.bel rfl hjn
      have HST := Lib.hid (fun (w' : World) (hb : Below wr.heap.size wr w') => step_any (k := 950000 - 5000 * (j + 1)) ((HAT.out.wa.up' hb).less (by omega)) (HIN.out j hjn) (by have := HAT.out.few; omega))
      have HK5 := Lib.hid (fun (w' : World) (hb : Below wc.heap.size wc w') => HPK.out.at5 hb rfl hjn)
      obtain ⟨k0, k1, k2, k3, k4⟩ := hk5
      unfold Ac.cells at HST
      obtain ⟨aj, haj⟩ : ∃ aj, b j = aj := ⟨_, rfl⟩
      rw [haj] at HST HK5 k0 k1 k2 k3 k4
      obtain ⟨op, page, off, na, Aa, nb, cb, bb⟩ := aj
      simp only at HST HK5 k0 k1 k2 k3 k4
      clear haj
      go_upto_region 15 with (fail)
      go_region_law (first
          | (go_simp; go_at_call 18; refine (HST.out _ (bel_dr _)).mono ?_; rintro e w4 ⟨rfl, t4, vi4, vb4, xs4, hw4, hl4⟩; have HW4 := Lib.hid hw4; have HL4 := Lib.hid hl4; have KS := Lib.hid (HK5.out _ hw4.vw.bel); have HH := Lib.hid (held_any hw4.vw.at_); have hu : decide (d.n < cntF qUsed t4.F d.n) = false := decide_eq_false (Nat.not_lt.2 (cntF_le qUsed t4.F d.n)); generalize cntF qUsed t4.F d.n = u at *; clear hw4 hl4)
          | (go_simp; go_at_call 19; refine HH.out.mono ?_; rintro e w5 ⟨rfl, hb5⟩; have hw5 := HW4.out.up' hb5; have HW5 := Lib.hid hw5; have KS := Lib.hid (HK5.out _ hw5.vw.bel); have HPG := Lib.hid (pages_any hw5.vw.at_); rw [hw5.cm] at HPG; obtain ⟨Ai, ci, hvi, _⟩ := hw5.wl.formI; have q4 := hw5.wl.c4; rw [hvi] at q4; have lW := hw5.wl.ltW; clear hw5 hb5 hvi)
          | (go_simp; go_at_call 20; refine HPG.out.mono ?_; rintro e w6 ⟨rfl, rfl⟩))
      all_goals
        have HF := Lib.hid HAT.out.few
        clear HAT HST HK5 KS k0 k1 k2 k3 k4 HH HPG hu HW4
        go_wp2
        go_roundw
        case rel => exact ⟨j + 1, t4, vi4, vb4, xs4, by omega, by go_num, HW5.out, by have := HL4.out; have := HF.out; omega⟩
        case measure => simp [intOf]; omega
    · obtain rfl : j = n := by omega
      have hjI : ¬ (j : Int) < (j : Int) := by omega
      have HW4 := Lib.hid (HAT.out.wa.less (k1 := 100000) (by omega))
      have hxl : xs.length ≤ 150 := by have := HAT.out.few; omega
      obtain ⟨Ai, ci, hvi, _⟩ := HAT.out.wa.wl.formI
      clear HAT HPK HIN
      subst hvi
      go_wp2
      go_loopw [12] (fun iv wr2 => ∃ (q : Nat) (t : PSt ShS), q ≤ xs.length ∧ iv = .int .i64 (q : Nat) ∧ WA wc wr2 Wb S d t True (100000 - q) (.slice Ai xs.length ci) vb xs) (fun iv _ => xs.length - (intOf iv).toNat)
      case atStart => exact ⟨0, t, Nat.zero_le _, rfl, HW4.out⟩
      case round =>
        obtain ⟨q, t, hq, rfl, hat⟩ := hrel
        have HAT := Lib.hid hat
        have q4 := hat.wl.c4
        have lW := hat.wl.ltW
        clear HW4 hat
        by_cases hql : q < xs.length
        · have hqI : (q : Int) < (xs.length : Int) := by omega
          obtain ⟨x, hqx⟩ : ∃ x, xs[q]? = some x := ⟨_, List.getElem?_eq_getElem hql⟩
          have HR := Lib.hid (wread_any (k := 100000 - (q + 1)) (HAT.out.less (by omega)) trivial hqx 0 (d.z : Int) (by omega) (by omega))
          clear hqx
          go_wp2_with fail
          refine HR.out.mono ?_
          rintro e w6 ⟨rfl, t6, hw6⟩
          have HW6 := Lib.hid hw6
          clear hw6 HR HAT q4 lW
          go_wp2
          go_roundw
          case rel => exact ⟨q + 1, t6, by omega, by go_num, HW6.out⟩
          case measure => simp [intOf]; omega
        · obtain rfl : q = xs.length := by omega
          have hqI : ¬ (xs.length : Int) < (xs.length : Int) := by omega
          have HBF := Lib.hid (bel2 HB0.out HAT.out.vw.bel)
          clear HAT
          go_wp2
          go_ret
          exact ⟨rfl, HBF.out⟩
end
end Go.Proofs.Ytmipngefpedfpaa
