/- radix: cut. Printed by gen_oh.py. -/
import Derived.Test.YtgkdggidgaifhaaOg
namespace Go.Proofs.Ytgkdggidgaifhaa
open Go.RowKit
set_option linter.unusedVariables false
set_option linter.unusedSimpArgs false

theorem tgetF_fst {σ : Type} {K : SnkF σ} {s : σ} {r : Int × Int} {l q : Nat} : (tgetF K s r l q).1 = (K.get s r).1 := by
  unfold tgetF
  split
  · rfl
  · split
    · rfl
    · split <;> rfl
theorem countN_ex {f : Nat → Bool} : ∀ {n : Nat}, 0 < countN f n → ∃ j, j < n ∧ f j = true
  | 0, h => by simp [countN] at h
  | n + 1, h => by
    by_cases hf : f n = true
    · exact ⟨n, by omega, hf⟩
    · simp only [countN, hf, Bool.false_eq_true, if_false, Nat.add_zero] at h
      obtain ⟨j, h1, h2⟩ := countN_ex h
      exact ⟨j, by omega, h2⟩
theorem cutF_good {σ : Type} {K : SnkF σ} (hK : K.Good) {key : Nat} (hk : key < 16777216) : ∀ (n l : Nat) (s : σ) (p : Int) (r : Int × Int) (q m : Nat), 7 ≤ n + l → l ≤ 5 → K.Rdy s (m + (7 - l)) →
    K.Rdy (cutF K n (s, p) r l q key).1.1 m ∧ ((cutF K n (s, p) r l q key).2.2 = 0 → Bd (cutF K n (s, p) r l q key).2.1) := by
  intro n
  induction n with
  | zero => intro l s p r q m h1 h2; omega
  | succ n ih =>
    intro l s p r q m h1 h2 hr
    unfold cutF
    split
    · rename_i h0
      exact ⟨hK.mono _ _ _ hr (by omega), fun _ => by rw [h0]; exact bd0⟩
    · simp only
      cases hg : tgetF K s r l q with
      | mk s1 oe =>
        obtain ⟨ox, er⟩ := oe
        have hs1 : s1 = (K.get s r).1 := by
          have := congrArg Prod.fst hg
          simp only at this
          rw [← this]
          exact tgetF_fst
        have hr1 : K.Rdy s1 (m + (7 - l)) := by rw [hs1]; exact hK.getR _ _ _ hr
        cases ox with
        | none =>
          simp only
          exact ⟨hK.mono _ _ _ hr1 (by omega), fun _ => bd0⟩
        | some x =>
          obtain ⟨he, hok, hle, hfx, _, hg0⟩ := tgetF_some hg
          have hbr : Bd r := hK.getB s r (hK.mono _ _ _ hr (by omega)) hg0
          simp only
          split
          · split
            · exact ⟨hK.mono _ _ _ hr1 (by omega), fun _ => bd0⟩
            · exact ⟨hK.mono _ _ _ hr1 (by omega), fun _ => hbr⟩
          · rename_i h6
            have hl5 : x.level ≤ 5 := by have := hok.lv; omega
            split
            · exact ⟨hK.mono _ _ _ hr1 (by omega), fun _ => hbr⟩
            · split
              · split
                · exact ⟨hK.mono _ _ _ hr1 (by omega), fun _ => bd0⟩
                · exact tput_good hK (hK.mono _ _ _ hr1 (by omega)) (hok.setHV _ (by simp))
              · rename_i h5
                have h3 := ih (x.level + 1) s1 p (x.kids (digN key x.level)) (frontN key (x.level + 1)) (m + 1) (by omega) (by omega) (hK.mono _ _ _ hr1 (by omega))
                generalize cutF K n (s1, p) (x.kids (digN key x.level)) (x.level + 1) (frontN key (x.level + 1)) key = y at h3
                obtain ⟨st2, kid, e2⟩ := y
                simp only at h3 ⊢
                split
                · exact ⟨hK.mono _ _ _ h3.1 (by omega), fun _ => hbr⟩
                · rename_i hne
                  have hbk : Bd kid := h3.2 (Decidable.of_not_not fun e => hne (.inl e))
                  split
                  · exact ⟨hK.mono _ _ _ h3.1 (by omega), fun _ => bd0⟩
                  · split
                    · rename_i h1
                      refine ⟨hK.mono _ _ _ h3.1 (by omega), fun _ => ?_⟩
                      obtain ⟨j, hj, hf⟩ := countN_ex (f := upd x.has (digN key x.level) (decide (kid ≠ (0, 0)))) (n := 16) (by omega)
                      have := firstN_spec (upd x.has (digN key x.level) (decide (kid ≠ (0, 0)))) 16 0 ⟨j, by omega, by omega, hf⟩
                      exact (hok.setHKd (i := digN key x.level) (fun _ => false) hbk).kd _ (by omega)
                    · exact tput_good hK (s := st2.1) (p := st2.2) h3.1 (hok.setHKd _ hbk)
/-- Behind the inner cut. -/
structure CutMid {σ : Type} {K : SnkF σ} (M : Snk K) (w V : World) (T : Nat) (O O' : Nat → Prop) (st : σ × Int) (r : Int × Int) (X : Nat) (x : RN) (vv : Nat → Value) (vl : Value) (g18 : Nat) (made : Int × Int) : Prop where
  tr : TrIs M w T O O' st V
  b7 : BoxA V w.heap.size r
  b12 : BoxA V (w.heap.size + 1) (0, 0)
  b18 : BoxA V g18 made
  nd : NdAt V X x vv vl
  o12 : Out O' T (w.heap.size + 1)
  oX : Out O' T X
  ne : X ≠ g18 ∧ w.heap.size ≠ X ∧ w.heap.size + 1 ≠ X
theorem CutMid.of {σ : Type} {K : SnkF σ} {M : Snk K} {w V2 V3 V4 : World} {T : Nat} {O O' : Nat → Prop} {st st2 : σ × Int} {r : Int × Int} {X : Nat} {x : RN} {vv : Nat → Value} {vl : Value} {g18 : Nat} {made : Int × Int}
    (tv : TrIs M w T O O st V2) (h7 : BoxA V2 w.heap.size r) (h12 : BoxA V2 (w.heap.size + 1) (0, 0)) (hn : NdAt V2 X x vv vl) (hv : ValsP (Out O T) vv vl) (oX : Out O T X) (o7 : Out O T w.heap.size) (o12 : Out O T (w.heap.size + 1))
    (hX : w.heap.size + 1 < X) (hti : TrIs M V2 T O O' st2 V3) (ho : Off (· = g18) V3 V4) (o18 : Out O' T g18) (hB : V2.heap.size ≤ g18) (h18 : BoxA V4 g18 made) : CutMid M w V4 T O O' st2 r X x vv vl g18 made := by
  have l7 := h7.lt
  have l12 := h12.lt
  have lX := hn.lt
  obtain ⟨n1, n2, n3⟩ := hti.nd oX hv hn
  refine ⟨(tv.trans hti).step ho (fun k e => by cases e; exact ⟨o18, .inl (by have := tv.off.size; omega)⟩), (hti.box o7 h7).off ho (by omega), (hti.box o12 h12).off ho (by omega), h18, ?_, hti.out o12 l12, n2, by omega, by omega, by omega⟩
  refine n1.offP ho (by omega) ⟨fun i hi b o n c e h0 e2 => ?_, fun b o n c e h0 e2 => ?_⟩
  · have := hn.inl.1 i hi b o n c e h0
    omega
  · have := hn.inl.2 b o n c e h0
    omega
set_option maxRecDepth 100000 in
set_option maxHeartbeats 8000000 in
theorem cut_any {σ : Type} {K : SnkF σ} {M : Snk K} (hK : K.Good) {T key : Nat} (hk : key < 16777216) : ∀ (n : Nat) (w : World) (s : σ) (p : Int) (O : Nat → Prop) (r : Int × Int) (l q : Nat), 7 ≤ n + l → l ≤ 5 → q < 9223372036854775808 → TrAt M w T O s p → K.Rdy s (7 - l) →
    Calls Try.prog 40 #[.pointer (some ⟨T, 0, none⟩), addrV r, .int .i64 (l : Nat), .int .i64 (q : Nat), .int .i64 (key : Nat)] w (TrPost M w T O (cutF K n (s, p) r l q key)) := by
  intro n
  induction n with
  | zero => intro w s p O r l q h1 h2; omega
  | succ n ih =>
    intro w s p O r l q hnl hl hq h hr
    have HIH := Lib.hid ih
    clear ih
    obtain ⟨ra, rb⟩ := r
    have hst : cutF K (n + 1) (s, p) (ra, rb) l q key = cutF K (n + 1) (s, p) (ra, rb) l q key := rfl
    conv at hst => rhs; unfold cutF
    have HST := Lib.hid hst
    have H := Lib.hid h
    have lT := h.lt
    clear h hst
    unfold addrV
    go_enter Try.func40, Try.ntmps40
    go_upto_region 1 with (fail)
    refine wp_forget (fun W => Below w.heap.size w W ∧ BoxA W w.heap.size (ra, rb) ∧ BoxA W (w.heap.size + 1) (0, 0)) (two_boxes w (ra, rb) _ _) ?_
    rintro W0 ⟨hb0, hB7, hB12⟩
    have l7 := hB7.lt
    have l12 := hB12.lt
    have c0 := hB7.1
    have c1 := hB7.2.1
    simp only at c0 c1
    have HB0 := Lib.hid hb0
    have HB7 := Lib.hid hB7
    have HB12 := Lib.hid hB12
    have TV0 := Lib.hid ((TrIs.refl H.out).up hb0)
    have HO7 := Lib.hid (H.out.outOf (g := w.heap.size) (Nat.le_refl _))
    have HO12 := Lib.hid (H.out.outOf (g := w.heap.size + 1) (by omega))
    clear hb0 hB7 hB12
    by_cases h0 : (ra, rb) = ((0, 0) : Int × Int)
    · have e0 := eq_root ra rb
      simp only [h0] at e0
      have hst := HST.out
      rw [if_pos h0] at hst
      have HST2 := Lib.hid hst
      clear hst HST h0
      have u0 := HB12.out.1
      have u1 := HB12.out.2.1
      have u2 := HB12.out.2.2 0
      have u3 := HB12.out.2.2 1
      go_wp2
      have hfin := TrIs.ret (y := ((s, p), (ra, rb), 0)) TV0.out HB12.out HO12.out (by omega)
      rw [HST2.out]
      refine bodyPost_ret (results_addr rfl _ _ _ _ _ rfl hfin.1 hfin.2.1) rfl ?_
      exact hfin.2.2
    · have e0 := eq_root ra rb
      simp only [h0, decide_false] at e0
      have hst := HST.out
      rw [if_neg h0] at hst
      simp only at hst
      clear h0 HST
      go_upto_region 3 with (fail)
      clear e0
      obtain ⟨y, hy⟩ : ∃ y, tgetF K s (ra, rb) l q = y := ⟨_, rfl⟩
      obtain ⟨s1, ox, er⟩ := y
      rw [hy] at hst
      cases ox with
      | none =>
        have HG := Lib.hid (tget_err TV0.out.tr (by omega) hq hy)
        unfold addrV at HG
        simp only at hst
        have HST2 := Lib.hid hst
        clear hy hst
        go_wp2_with fail
        refine HG.out.mono ?_
        rintro e V ⟨rfl, her, htr, hof⟩
        have TV1 : Hid (TrIs M w T O O (s1, p) V) := Lib.hid (TV0.out.trans ⟨htr, hof.mono fun _ e => .inl e, fun k e => .inl e⟩)
        have HB12' := Lib.hid (HB12.out.off hof HO12.out.1)
        clear htr hof HG c0 c1
        have u0 := HB12'.out.1
        have u1 := HB12'.out.2.1
        have u2 := HB12'.out.2.2 0
        have u3 := HB12'.out.2.2 1
        go_wp2
        have hfin := TrIs.ret (y := ((s1, p), (0, 0), er)) TV1.out HB12'.out HO12.out (by omega)
        rw [HST2.out]
        refine bodyPost_ret (results_addr rfl _ _ _ _ _ rfl hfin.1 hfin.2.1) rfl ?_
        exact hfin.2.2
      | some x =>
        obtain ⟨rfl, hok, hlx, hfx, hs1, hg0⟩ := tgetF_some hy
        have hrb : Bd (ra, rb) := hK.getB s _ (hK.mono _ _ _ hr (by omega)) hg0
        have hr1 : K.Rdy s1 (7 - l) := by rw [hs1]; exact hK.getR _ _ _ hr
        have HG := Lib.hid (tget_ok TV0.out.tr (by omega) hq hy)
        unfold addrV at HG
        simp only at hst
        have HST2 := Lib.hid hst
        clear hy hst hg0 hs1 hr hfx
        go_wp2_with fail
        refine HG.out.mono ?_
        rintro e V ⟨X, vv, vl, rfl, htr, hof, hnd, hX, hvi⟩
        have TV1 : Hid (TrIs M w T O O (s1, p) V) := Lib.hid (TV0.out.trans ⟨htr, hof.mono fun _ e => .inl e, fun k e => .inl e⟩)
        have HB12' := Lib.hid (HB12.out.off hof HO12.out.1)
        have HB7' := Lib.hid (HB7.out.off hof HO7.out.1)
        have hXo : Out O T X := H.out.outOf (Nat.le_trans HB0.out.size hX)
        have HVI : Hid (ValsP (fun b => w.heap.size ≤ b ∧ b ≠ X) vv vl) := Lib.hid (hvi.p.mono fun b hb => ⟨Nat.le_trans HB0.out.size hb.1, hb.2⟩)
        have HVP : Hid (ValsP (Out O T) vv vl) := Lib.hid (hvi.p.mono fun b hb => H.out.outOf (Nat.le_trans HB0.out.size hb.1))
        have hl6 := hok.lv
        have HN := Lib.hid hnd
        have HK := Lib.hid hok
        have q0 := hnd.level
        have q1 := hnd.prefix_
        have q2 := hnd.key
        have lX := hnd.lt
        have l7' := HB7'.out.lt
        have l12' := HB12'.out.lt
        have HXO := Lib.hid hXo
        have c0 := HB7'.out.1
        have c1 := HB7'.out.2.1
        simp only at c0 c1
        have sX : w.heap.size + 1 < X := by omega
        clear htr hof hnd hvi hok HG hrb hXo hX HB7 HB12
        obtain ⟨lv, hlv⟩ : ∃ lv, lv = x.level := ⟨_, rfl⟩
        rw [← hlv] at q0 hl6 hlx
        have HLV := Lib.hid hlv
        by_cases h6 : lv = 6
        · have hb6 : ((lv : Int) == 6) = true := by simp; omega
          have i6 : 5 ≤ (lv : Int) := by omega
          have HD5 : Hid (∀ W, Calls Try.prog 39 #[.int .i64 (key : Nat), .int .i64 5] W fun e w' => e = .returned (.int .i64 (digN key 5 : Nat)) ∧ W = w') := Lib.hid (fun W => (digit_any W (l := 5) (by omega) (by omega)).mono fun e w' h => ⟨h.1, h.2.symm⟩)
          have HX6 : Hid (x.level = 6) := Lib.hid (by rw [← HLV.out]; exact h6)
          clear hlv
          go_upto_region 8 with (go_at_call 39; refine (HD5.out _).mono ?_; rintro e w' ⟨rfl, rfl⟩)
          by_cases hke : x.key = key
          · have hb7 : ((x.key : Int) == (key : Int)) = true := by simp; omega
            have hst := HST2.out
            rw [if_pos HX6.out, if_pos hke] at hst
            have HST3 := Lib.hid hst
            clear hst hke HST2
            have u0 := HB12'.out.1
            have u1 := HB12'.out.2.1
            have u2 := HB12'.out.2.2 0
            have u3 := HB12'.out.2.2 1
            go_wp2
            have hfin := TrIs.ret (y := ((s1, p), (0, 0), 0)) TV1.out HB12'.out HO12.out (by omega)
            rw [HST3.out]
            refine bodyPost_ret (results_addr rfl _ _ _ _ _ rfl hfin.1 hfin.2.1) rfl ?_
            exact hfin.2.2
          · have hb7 : ((x.key : Int) == (key : Int)) = false := by simp; omega
            have hst := HST2.out
            rw [if_pos HX6.out, if_neg hke] at hst
            have HST3 := Lib.hid hst
            clear hst hke HST2
            have u0 := HB12'.out.1
            have u1 := HB12'.out.2.1
            have u2 := HB12'.out.2.2 0
            have u3 := HB12'.out.2.2 1
            go_wp2
            have hfin := TrIs.ret (y := ((s1, p), (ra, rb), 0)) TV1.out HB12'.out HO12.out (by omega)
            rw [HST3.out]
            refine bodyPost_ret (results_addr rfl _ _ _ _ _ rfl hfin.1 hfin.2.1) rfl ?_
            exact hfin.2.2
        · have hb6 : ((lv : Int) == 6) = false := by simp; omega
          have HX6 : Hid (¬ x.level = 6) := Lib.hid (by rw [← HLV.out]; exact h6)
          have hl5 : lv ≤ 5 := by omega
          obtain ⟨d, hd⟩ : ∃ d, digN key lv = d := ⟨_, rfl⟩
          obtain ⟨f, hf⟩ : ∃ f, frontN key lv = f := ⟨_, rfl⟩
          have hd16 : d < 16 := by rw [← hd]; exact digN_lt _ _
          have hdI : (d : Int) < 16 := by omega
          have HDI : Hid (∀ W : World, Calls Try.prog 39 #[.int .i64 (key : Nat), .int .i64 (lv : Nat)] W fun e w' => e = .returned (.int .i64 (d : Nat)) ∧ W = w') := Lib.hid (fun W => by rw [← hd]; exact (digit_any W (by omega) (by omega)).mono fun e w' h => ⟨h.1, h.2.symm⟩)
          have HD5 : Hid (5 ≤ (lv : Int) → ∀ W : World, Calls Try.prog 39 #[.int .i64 (key : Nat), .int .i64 5] W fun e w' => e = .returned (.int .i64 (d : Nat)) ∧ W = w') := by
            refine Lib.hid (fun h5 W => ?_)
            have e5 : lv = 5 := by omega
            rw [← hd, e5]
            exact (digit_any W (l := 5) (by omega) (by omega)).mono fun e w' h => ⟨h.1, h.2.symm⟩
          have HFR : Hid (∀ g : Up V, Calls Try.prog 38 #[.int .i64 (key : Nat), .int .i64 (lv : Nat)] g.world fun e w' => e = .returned (.int .i64 (f : Nat)) ∧ ∃ g' : Up V, w' = g'.world) := Lib.hid (fun g => by rw [← hf]; exact front_up (by omega) (by omega))
          have HD := Lib.hid hd
          have HF := Lib.hid hf
          have q4 := HN.out.has hd16
          clear hd hf hlv h6
          go_upto_region 7 with (first | (go_at_call 39; with_reducible refine (HDI.out _).mono ?_; rintro e w' ⟨rfl, rfl⟩) | (go_at_call 39; with_reducible refine (HD5.out (by assumption) _).mono ?_; rintro e w' ⟨rfl, rfl⟩))
          go_upto_region 11 with (fail)
          by_cases hno : f ≠ x.prefix_ ∨ x.has d = false
          · have hst := HST2.out
            rw [if_neg HX6.out, if_pos (by rw [← HLV.out, HF.out, HD.out]; exact hno)] at hst
            have HST4 := Lib.hid hst
            clear hst HST2
            by_cases hfp : f = x.prefix_
            case' pos =>
              have hb8 : ((f : Int) != (x.prefix_ : Int)) = false := by simp; omega
              have hh : x.has d = false := hno.resolve_left (fun e => e hfp)
              rw [hh] at q4
              clear hh hfp hno
            case' neg =>
              have hb8 : ((f : Int) != (x.prefix_ : Int)) = true := by simp; omega
              clear hfp hno
            all_goals
              refine wp_region_up (by kernel_rfl) (by kernel_rfl) ?_
              repeat (go_big_quiet_step (first | (go_at_call 38; exact HFR.out _)))
              refine wpQuiet_nil ?_
              rintro _ ⟨g, rfl⟩
              have HB123 := Lib.hid (HB12'.out.off (S := fun _ => False) (Off.of_below g.h) id)
              have HB73 := Lib.hid (HB7'.out.off (S := fun _ => False) (Off.of_below g.h) id)
              have TV3 := Lib.hid (TV1.out.up g.h)
              have u0 := HB123.out.1
              have u1 := HB123.out.2.1
              have u2 := HB123.out.2.2 0
              have u3 := HB123.out.2.2 1
              go_wp2
              have hfin := TrIs.ret (y := ((s1, p), (ra, rb), 0)) TV3.out HB123.out HO12.out (by omega)
              rw [HST4.out]
              refine bodyPost_ret (results_addr rfl _ _ _ _ _ rfl hfin.1 hfin.2.1) rfl ?_
              exact hfin.2.2
          have hst := HST2.out
          rw [if_neg HX6.out, if_neg (by rw [← HLV.out, HF.out, HD.out]; exact hno)] at hst
          have HST4 := Lib.hid hst
          have hfp : f = x.prefix_ := Classical.byContradiction fun e => hno (.inl e)
          have hh : x.has d = true := by
            cases h : x.has d
            · exact absurd (.inr h) hno
            · rfl
          have hb8 : ((f : Int) != (x.prefix_ : Int)) = false := by simp; omega
          rw [hh] at q4
          clear hst hfp HST2 hno hh
          refine wp_region_up (by kernel_rfl) (by kernel_rfl) ?_
          repeat (go_big_quiet_step (first | (go_at_call 38; exact HFR.out _)))
          refine wpQuiet_nil ?_
          rintro _ ⟨g, rfl⟩
          go_upto_region 13 with (fail)
          refine wp_forget (fun W => Below V.heap.size V W) g.h ?_
          intro V1 hb1
          have TV3 := Lib.hid (TV1.out.up hb1)
          have HB123 := Lib.hid (HB12'.out.off (S := fun _ => False) (Off.of_below hb1) id)
          have HB73 := Lib.hid (HB7'.out.off (S := fun _ => False) (Off.of_below hb1) id)
          have HN3 := Lib.hid (HN.out.up hb1)
          clear q0 q1 q2 q4 c0 c1
          have q0 := HN3.out.level
          rw [← HLV.out] at q0
          have q4 := HN3.out.has hd16
          have q5 := HN3.out.vals hd16
          obtain ⟨q6, q7⟩ := HN3.out.kid hd16
          have c0 := HB73.out.1
          have c1 := HB73.out.2.1
          simp only at c0 c1
          have s13 := hb1.size
          have lX1 := HN3.out.lt
          clear hb1 HB7' HB12' HN HFR HD5 HDI
          have hvx : ValsP (fun b => ¬ b = X) vv vl := ⟨fun j hj b o n c e h0 => (HVI.out.1 j hj b o n c e h0).2, fun b o n c e h0 => (HVI.out.2 b o n c e h0).2⟩
          have HVX := Lib.hid hvx
          clear hvx
          by_cases h5 : lv = 5
          · have hb5 : ((lv : Int) == 5) = true := by simp; omega
            have hst := HST4.out
            rw [if_pos (by rw [← HLV.out]; exact h5), show digN key 5 = d by rw [← HD.out, h5]] at hst
            have HST5 := Lib.hid hst
            have f1 := HN3.out.free (50 + d)
            have f2 := HN3.out.free (34 + d)
            have a1 : 50 + d ≠ 34 + d := by omega
            have a2 := a1.symm
            obtain ⟨Ad, nd, cd, ed, _, _⟩ := HN3.out.vs d hd16
            rw [ed] at q5
            clear h5 hst HST4 ed
            go_upto_region 14 with (fail)
            go_region
            go_upto_region 15 with (fail)
            refine wp_forget (fun W => Off (· = X) V1 W ∧ NdAt W X { x with has := upd x.has d false, vals := upd x.vals d [] } (upd vv d (.slice none 0 0)) vl) ⟨?_, ?_⟩ ?_
            · exact (((Off.refl (· = X) V1).setCell (p := ⟨X, 50 + d, none⟩) rfl _).setCell (p := ⟨X, 34 + d, none⟩) rfl _).drew
            · exact ((HN3.out.setHasP (Vb := fun b => ¬ b = X) HVX.out (fun e => e rfl) hd16 false).setValsP (Vb := fun b => ¬ b = X) HVX.out (fun e => e rfl) hd16 (slB_nil _) (fun b o n c e => by cases e)).up (Below.refl _ _).drew
            rintro V2 ⟨ho2, hn2⟩
            have TV2 := Lib.hid (TV3.out.step ho2 (fun k e => by cases e; exact ⟨HXO.out, .inl (by omega)⟩))
            have HB122 := Lib.hid (HB123.out.off ho2 (by omega))
            have HN2 := Lib.hid hn2
            have HCN := Lib.hid ((count_any hn2.hasAt).mono (R' := fun e w' => e = .returned (.int .i64 (countN (upd x.has d false) 16 : Nat)) ∧ V2 = w') fun e w' h => ⟨h.1, h.2.symm⟩)
            clear ho2 hn2 q0 q4 q5 q6 q7 c0 c1 f1 f2 a1 a2
            obtain ⟨cn, hcn⟩ : ∃ cn, countN (upd x.has d false) 16 = cn := ⟨_, rfl⟩
            rw [hcn] at HCN
            have hst := HST5.out
            rw [hcn] at hst
            clear hcn
            by_cases hc0 : cn = 0
            · have hb9 : ((cn : Int) == 0) = true := by simp; omega
              rw [if_pos hc0] at hst
              have HST6 := Lib.hid hst
              clear hst hc0
              go_upto_region 16 with (go_at_call 58; refine HCN.out.mono ?_; rintro e w' ⟨rfl, rfl⟩)
              have u0 := HB122.out.1
              have u1 := HB122.out.2.1
              have u2 := HB122.out.2.2 0
              have u3 := HB122.out.2.2 1
              go_wp2
              have hfin := TrIs.ret (y := ((s1, p), (0, 0), 0)) TV2.out HB122.out HO12.out (by omega)
              rw [HST6.out]
              refine bodyPost_ret (results_addr rfl _ _ _ _ _ rfl hfin.1 hfin.2.1) rfl ?_
              exact hfin.2.2
            · have hb9 : ((cn : Int) == 0) = false := by simp; omega
              rw [if_neg hc0] at hst
              have HST6 := Lib.hid hst
              have HPU := Lib.hid (tput_any TV2.out.tr (hK.mono _ _ _ hr1 (by omega)) HN2.out (HK.out.setHV _ (by simp)))
              clear hst hc0
              go_upto_region 17 with (go_at_call 58; refine HCN.out.mono ?_; rintro e w' ⟨rfl, rfl⟩)
              go_wp2_with fail
              refine HPU.out.mono ?_
              rintro e V9 hp
              obtain ⟨O9, he, hti⟩ := hp.is
              have hpf := HST6.out
              generalize tputF K (s1, p) { x with has := upd x.has d false, vals := upd x.vals d [] } = y at *
              unfold addrV at he
              subst he
              have HPF9 := Lib.hid hpf
              have HTI9 := Lib.hid hti
              have HBX := Lib.hid (hti.box HO12.out HB122.out)
              have HBO9 := Lib.hid (hti.out HO12.out HB122.out.lt)
              have u0 := HBX.out.1
              have u1 := HBX.out.2.1
              have u2 := HBX.out.2.2 0
              have u3 := HBX.out.2.2 1
              clear hp hti hpf
              go_wp2
              have hfin := (TV2.out.trans HTI9.out).ret HBX.out HBO9.out (by omega)
              rw [HPF9.out]
              refine bodyPost_ret (results_addr rfl _ _ _ _ _ rfl hfin.1 hfin.2.1) rfl ?_
              exact hfin.2.2
          · have hb5 : ((lv : Int) == 5) = false := by simp; omega
            have hl4 : lv ≤ 4 := by omega
            have hst := HST4.out
            rw [if_neg (by rw [← HLV.out]; exact h5), show digN key x.level = d by rw [← HLV.out]; exact HD.out] at hst
            obtain ⟨y, hy⟩ : ∃ y, cutF K n (s1, p) (x.kids d) (x.level + 1) (frontN key (x.level + 1)) key = y := ⟨_, rfl⟩
            rw [hy] at hst
            rw [← HLV.out] at hy
            have hgd := cutF_good hK hk n (lv + 1) s1 p (x.kids d) (frontN key (lv + 1)) 1 (by omega) (by omega) (hK.mono _ _ _ hr1 (by omega))
            rw [hy] at hgd
            obtain ⟨st2, kid, e2⟩ := y
            simp only at hst
            have HGD := Lib.hid hgd
            have HST5 := Lib.hid hst
            have HYS := Lib.hid hy
            clear hst HST4 h5 hy hgd
            have hcut : ∀ W, Below V1.heap.size V1 W → Calls Try.prog 40 #[.pointer (some ⟨T, 0, none⟩), .agg #[.int .i64 (x.kids d).1, .int .i64 (x.kids d).2], .int .i64 ((lv : Int) + 1), .int .i64 (frontN key (lv + 1) : Nat), .int .i64 (key : Nat)] W (SetUp M V1 W T O (st2, kid, e2)) := fun W hb =>
              SetUp.of hb <| HYS.out ▸ HIH.out W s1 p O (x.kids d) (lv + 1) (frontN key (lv + 1)) (by omega) (by omega) (Nat.lt_of_le_of_lt (front_le _ _) (by omega)) (TV3.out.up hb).tr (hK.mono _ _ _ hr1 (by omega))
            have HSET := Lib.hid hcut
            have HFR2 : Hid (∀ W : World, Calls Try.prog 38 #[.int .i64 (key : Nat), .int .i64 ((lv : Int) + 1)] W fun e w' => e = .returned (.int .i64 (frontN key (lv + 1) : Nat)) ∧ W = w') := Lib.hid (fun W => (front_any W (l := lv + 1) (by omega) (by omega)).mono fun e w' h => ⟨h.1, h.2.symm⟩)
            have HO18 : Hid (Out O T V1.heap.size) := Lib.hid (TV3.out.tr.outOf (Nat.le_refl _))
            have hw1 : IntKind.i64.wrap ((lv : Int) + 1) = (lv : Int) + 1 := IntWalk.i64_in _ (by omega)
            have y1 : X ≠ V1.heap.size := by omega
            have y2 := y1.symm
            clear hcut q4 q5 c0 c1
            go_upto_region 18 with (fail)
            go_cut [13, 15] from 100 to 123 (fun s13 s15 wc => ∃ g18 O1, s15 = .pointer (some ⟨g18, 0, none⟩) ∧ s13 = .int .i64 e2 ∧ CutMid M w wc T O O1 st2 (ra, rb) X x vv vl g18 kid)
            case first =>
              go_region_held3 (fun W => W.cell? ⟨X, 0, none⟩ = some (.int .i64 lv) ∧ W.cell? ⟨X, 2 + d * 2, none⟩ = some (.int .i64 (x.kids d).1) ∧ W.cell? ⟨X, 2 + d * 2 + 1, none⟩ = some (.int .i64 (x.kids d).2))
                (first | exact ⟨q0, q6, q7⟩ | go_keep)
                (first
                  | (go_at_call 38; with_reducible refine (HFR2.out _).mono ?_; rintro e w5 ⟨rfl, rfl⟩)
                  | (go_at_call 40; refine (HSET.out _ (by first | exact (Below.refl _ _).drew | exact ((Below.refl _ _).alloc (Nat.le_refl _) _).drew)).mono ?_; rintro e V3 ⟨O1, rfl, hti, htc⟩; have q0 := (hti.off.cell (p := ⟨X, 0, none⟩) lX1 HXO.out.not).trans q0; have q6 := (hti.off.cell (p := ⟨X, 2 + d * 2, none⟩) lX1 HXO.out.not).trans q6; have q7 := (hti.off.cell (p := ⟨X, 2 + d * 2 + 1, none⟩) lX1 HXO.out.not).trans q7; (first | (have kb := htc.box HO18.out (show BoxA (V1.alloc (.cells #[.int .i64 0, .int .i64 0] 30)).drew V1.heap.size (0, 0) from (BoxA.new V1 _ (0, 0)).off (S := fun _ => False) (Off.refl _ _).drew id); have kb0 := kb.1; have kb1 := kb.2.1; have kb2 := kb.2.2 0; have kb3 := kb.2.2 1; have HKB := Lib.hid kb; have HO18' := Lib.hid (htc.out HO18.out (show V1.heap.size < (V1.alloc (.cells #[.int .i64 0, .int .i64 0] 30)).drew.heap.size by simp)); clear kb) | skip); have HTI := Lib.hid hti; have HTC := Lib.hid htc; clear hti htc))
              all_goals
                go_wp2_with fail
                go_meet
                first
                  | exact ⟨_, _, rfl, rfl, CutMid.of TV3.out HB73.out HB123.out HN3.out HVP.out HXO.out HO7.out HO12.out sX HTI.out (HKB.out.set kid).2 HO18'.out (Nat.le_refl _) (HKB.out.set kid).1⟩
                  | exact ⟨_, _, rfl, rfl, CutMid.of TV3.out HB73.out HB123.out HN3.out HVP.out HXO.out HO7.out HO12.out sX HTI.out (Off.of_below ((Below.refl _ _).alloc (Nat.le_refl _) _)) (HTI.out.tr.outOf (Nat.le_refl _)) HTI.out.off.size (BoxA.new _ _ _)⟩
            case rest =>
            obtain ⟨g18, O1, rfl, rfl, hm⟩ := hcut
            obtain ⟨V4, rfl⟩ : ∃ V4, V4 = wc := ⟨_, rfl⟩
            have HM := Lib.hid hm
            clear q0 q6 q7
            obtain ⟨q6, q7⟩ := hm.nd.kid hd16
            have q4 := hm.nd.has hd16
            have m0 := hm.b18.1
            have m1 := hm.b18.2.1
            have r0 := hm.b7.1
            have r1 := hm.b7.2.1
            simp only at r0 r1
            obtain ⟨y5, y6, y7⟩ := hm.ne
            have y9 := y5.symm
            have lX4 := hm.nd.lt
            have l12 := hm.b12.lt
            have l18 := hm.b18.lt
            have l7x := hm.b7.lt
            clear hm
            by_cases hstop : e2 ≠ 0 ∨ kid = x.kids d
            · have hst := HST5.out
              rw [if_pos hstop] at hst
              have HST6 := Lib.hid hst
              have e3 : e2 = 0 → ∀ W : World, (Op.equalIn 10000 30 (.agg #[.int .i64 kid.1, .int .i64 kid.2]) (.agg #[.int .i64 (x.kids d).1, .int .i64 (x.kids d).2])).run Try.prog W = .ok true W := fun e W => by
                rw [eq_addr, decide_eq_true]
                rw [hstop.resolve_left (fun h => h e)]
              by_cases he : e2 = 0
              case' pos =>
                have e4 := e3 he
                have hb9 : (e2 != 0) = false := by simp [he]
                clear e3 he hstop hst
              case' neg =>
                have hb9 : (e2 != 0) = true := by simp [he]
                clear e3 he hstop hst
              all_goals
                go_upto_region 19 with (fail)
                refine wp_region_up (by kernel_rfl) (by kernel_rfl) ?_
                repeat (go_big_quiet_step (fail))
                refine wpQuiet_nil ?_
                rintro _ ⟨g, rfl⟩
                have HB124 := Lib.hid (HM.out.b12.off (S := fun _ => False) (Off.of_below g.h) id)
                have TV4 := Lib.hid (HM.out.tr.up g.h)
                have u0 := HB124.out.1
                have u1 := HB124.out.2.1
                have u2 := HB124.out.2.2 0
                have u3 := HB124.out.2.2 1
                go_wp2
                have hfin := TrIs.ret (y := (st2, (ra, rb), e2)) TV4.out HB124.out HM.out.o12 (by omega)
                rw [HST6.out]
                refine bodyPost_ret (results_addr rfl _ _ _ _ _ rfl hfin.1 hfin.2.1) rfl ?_
                exact hfin.2.2
            have he : e2 = 0 := Classical.byContradiction fun e => hstop (.inl e)
            subst he
            have hst := HST5.out
            rw [if_neg hstop] at hst
            have HST6 := Lib.hid hst
            have e3 : ∀ W : World, (Op.equalIn 10000 30 (.agg #[.int .i64 kid.1, .int .i64 kid.2]) (.agg #[.int .i64 (x.kids d).1, .int .i64 (x.kids d).2])).run Try.prog W = .ok false W := fun W => by
              rw [eq_addr, decide_eq_false]
              exact fun e => hstop (.inr e)
            have HBM : Hid (Bd kid) := Lib.hid (HGD.out.2 rfl)
            have HRM : Hid (K.Rdy st2.1 1) := Lib.hid HGD.out.1
            clear hst HST5 HGD HYS hstop
            go_upto_region 19 with (fail)
            refine wp_region_up (by kernel_rfl) (by kernel_rfl) ?_
            repeat (go_big_quiet_step (fail))
            refine wpQuiet_nil ?_
            rintro _ ⟨g, rfl⟩
            go_upto_region 21 with (fail)
            refine wp_forget (fun W => Below V4.heap.size V4 W) g.h ?_
            intro V5 hb5
            have HB125 := Lib.hid (HM.out.b12.off (S := fun _ => False) (Off.of_below hb5) id)
            have HN5 := Lib.hid (HM.out.nd.up hb5)
            have TV5 := Lib.hid (HM.out.tr.up hb5)
            have hb18 := HM.out.b18.off (S := fun _ => False) (Off.of_below hb5) id
            obtain ⟨b, hb⟩ : ∃ b, decide (kid ≠ (0, 0)) = b := ⟨_, rfl⟩
            have e4 : ∀ W : World, (Op.equalIn 10000 30 (.agg #[.int .i64 kid.1, .int .i64 kid.2]) (.agg #[.int .i64 0, .int .i64 0])).run Try.prog W = .ok (!b) W := fun W => by
              rw [eq_addr, ← hb]
              congr 1
              rw [Bool.eq_iff_iff]
              simp [Prod.ext_iff]
            have HBB := Lib.hid hb
            have HO125 := Lib.hid HM.out.o12
            have HOX5 := Lib.hid HM.out.oX
            clear hb e3 q4 q6 q7 m0 m1 r0 r1
            have q4 := HN5.out.has hd16
            obtain ⟨q6, q7⟩ := HN5.out.kid hd16
            have m0 := hb18.1
            have m1 := hb18.2.1
            have f1 := HN5.out.free (50 + d)
            have f2 := HN5.out.free (2 + d * 2)
            have f3 := HN5.out.free (2 + d * 2 + 1)
            have a1 : 50 + d ≠ 2 + d * 2 := by omega
            have a2 : 50 + d ≠ 2 + d * 2 + 1 := by omega
            have a3 := a1.symm
            have a4 := a2.symm
            have HM2 := Lib.hid HM.out.tr.off.size
            clear HM hb18 hb5
            go_region
            go_upto_region 22 with (fail)
            refine wp_forget (fun W => Off (· = X) V5 W ∧ NdAt W X { x with has := upd x.has d b, kids := upd x.kids d kid } vv vl) ⟨?_, ?_⟩ ?_
            · exact ((((Off.refl (· = X) V5).setCell (p := ⟨X, 50 + d, none⟩) rfl _).setCell (p := ⟨X, 2 + d * 2, none⟩) rfl _).setCell (p := ⟨X, 2 + d * 2 + 1, none⟩) rfl _).drew
            · exact ((HN5.out.setHasP (Vb := fun b => ¬ b = X) HVX.out (fun e => e rfl) hd16 b).setKidP (Vb := fun b => ¬ b = X) HVX.out (fun e => e rfl) hd16 kid).up (Below.refl _ _).drew
            rintro V6 ⟨ho6, hn6⟩
            have TV6 := Lib.hid (TV5.out.step ho6 (fun k e => by cases e; exact ⟨HOX5.out, .inl (by omega)⟩))
            have HB126 := Lib.hid (HB125.out.off ho6 (by omega))
            have HN6 := Lib.hid hn6
            have HCN := Lib.hid ((count_any hn6.hasAt).mono (R' := fun e w' => e = .returned (.int .i64 (countN (upd x.has d b) 16 : Nat)) ∧ V6 = w') fun e w' h => ⟨h.1, h.2.symm⟩)
            have l126 := HB126.out.lt
            clear ho6 hn6 q4 q6 q7 m0 m1 f1 f2 f3 a1 a2 a3 a4 e4
            obtain ⟨cn, hcn⟩ : ∃ cn, countN (upd x.has d b) 16 = cn := ⟨_, rfl⟩
            rw [hcn] at HCN
            have hst := HST6.out
            rw [HBB.out, hcn] at hst
            have HCC := Lib.hid hcn
            clear hcn HST6
            by_cases hc0 : cn = 0
            · have hb9 : ((cn : Int) == 0) = true := by simp; omega
              rw [if_pos hc0] at hst
              have HST6 := Lib.hid hst
              clear hst hc0
              go_upto_region 24 with (go_at_call 58; refine HCN.out.mono ?_; rintro e w' ⟨rfl, rfl⟩)
              have u0 := HB126.out.1
              have u1 := HB126.out.2.1
              have u2 := HB126.out.2.2 0
              have u3 := HB126.out.2.2 1
              go_wp2
              have hfin := TrIs.ret (y := (st2, (0, 0), 0)) TV6.out HB126.out HO125.out (by omega)
              rw [HST6.out]
              refine bodyPost_ret (results_addr rfl _ _ _ _ _ rfl hfin.1 hfin.2.1) rfl ?_
              exact hfin.2.2
            have hb9 : ((cn : Int) == 0) = false := by simp; omega
            rw [if_neg hc0] at hst
            by_cases hc1 : cn = 1
            · have hb10 : ((cn : Int) == 1) = true := by simp; omega
              rw [if_pos hc1] at hst
              have HST6 := Lib.hid hst
              have HON := Lib.hid (only_any HN6.out (countN_ex (by have := HCC.out; show 0 < countN (upd x.has d b) 16; omega)))
              simp only at HON
              obtain ⟨ak, hak⟩ : ∃ ak, upd x.kids d kid (firstN (upd x.has d b) 16 0) = ak := ⟨_, rfl⟩
              rw [hak] at HON hst
              unfold addrV at HON
              have HST7 := Lib.hid hst
              clear hst hc1 hc0 hak HST6
              go_upto_region 26 with (go_at_call 58; refine HCN.out.mono ?_; rintro e w' ⟨rfl, rfl⟩)
              go_wp2_with fail
              refine HON.out.mono ?_
              rintro e V7 ⟨rfl, hb7⟩
              have TV7 := Lib.hid (TV6.out.up hb7)
              have HB127 := Lib.hid (HB126.out.off (S := fun _ => False) (Off.of_below hb7) id)
              clear hb7
              have u0 := HB127.out.1
              have u1 := HB127.out.2.1
              have u2 := HB127.out.2.2 0
              have u3 := HB127.out.2.2 1
              go_wp2
              have hfin := TrIs.ret (y := (st2, ak, 0)) TV7.out HB127.out HO125.out (by omega)
              rw [HST7.out]
              refine bodyPost_ret (results_addr rfl _ _ _ _ _ rfl hfin.1 hfin.2.1) rfl ?_
              exact hfin.2.2
            have hb10 : ((cn : Int) == 1) = false := by simp; omega
            rw [if_neg hc1] at hst
            have HST6 := Lib.hid hst
            have HPU := Lib.hid (tput_any TV6.out.tr HRM.out HN6.out (HK.out.setHKd _ HBM.out))
            clear hst hc1 hc0
            go_upto_region 27 with (go_at_call 58; refine HCN.out.mono ?_; rintro e w' ⟨rfl, rfl⟩)
            go_wp2_with fail
            refine HPU.out.mono ?_
            rintro e V9 hp
            obtain ⟨O9, he, hti⟩ := hp.is
            have hpf := HST6.out
            generalize tputF K (st2.1, st2.2) { x with has := upd x.has d b, kids := upd x.kids d kid } = y at *
            unfold addrV at he
            subst he
            have HPF9 := Lib.hid hpf
            have HTI9 := Lib.hid hti
            have HBX := Lib.hid (hti.box HO125.out HB126.out)
            have HBO9 := Lib.hid (hti.out HO125.out HB126.out.lt)
            have u0 := HBX.out.1
            have u1 := HBX.out.2.1
            have u2 := HBX.out.2.2 0
            have u3 := HBX.out.2.2 1
            clear hp hti hpf
            go_wp2
            have hfin := (TV6.out.trans HTI9.out).ret HBX.out HBO9.out (by omega)
            rw [HPF9.out]
            refine bodyPost_ret (results_addr rfl _ _ _ _ _ rfl hfin.1 hfin.2.1) rfl ?_
            exact hfin.2.2
end Go.Proofs.Ytgkdggidgaifhaa
