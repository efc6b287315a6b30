/- radix: walk, walked. -/
import Derived.Test.YtgkdggidgaifhaaOi
namespace Go.Proofs.Ytgkdggidgaifhaa
open Go.RowKit
set_option linter.unusedVariables false
set_option linter.unusedSimpArgs false

section
variable {σ α : Type} {K : SnkF σ} {cb : α → Int × Int → RN → α × Bool} (V : Vis cb)
def WkOk (st : WkSt σ α) : Prop := K.Rdy st.1 0 ∧ 0 ≤ st.2.1 ∧ st.2.1 ≤ 1048576 ∧ V.Rdy st.2.2 st.2.1.toNat
theorem kidsF_keep {W : WkSt σ α → Int × Int → Nat → Nat → WkSt σ α × Bool × Int} (hW : ∀ st r l q, WkOk (K := K) V st → (W st r l q).2.1 = true → WkOk (K := K) V (W st r l q).1) (x : RN) :
    ∀ (m i : Nat) (st : WkSt σ α), WkOk (K := K) V st → (kidsF W x m i st).2.1 = true → WkOk (K := K) V (kidsF W x m i st).1
  | 0, i, st, h, _ => h
  | m + 1, i, st, h, h2 => by
    unfold kidsF at h2 ⊢
    split
    · rename_i e
      rw [if_pos e] at h2
      exact kidsF_keep hW x m _ _ h h2
    · rename_i e
      rw [if_neg e] at h2
      have h3 := hW st (x.kids i) (x.level + 1) (x.prefix_ * 16 + i) h
      generalize W st (x.kids i) (x.level + 1) (x.prefix_ * 16 + i) = y at h2 h3 ⊢
      obtain ⟨st', more, er⟩ := y
      simp only at h2 h3 ⊢
      split
      · rename_i e2
        rw [if_pos e2] at h2
        exact kidsF_keep hW x m _ _ (h3 e2) h2
      · rename_i e2
        rw [if_neg e2] at h2
        cases h2
theorem walkF_keep (hK : K.Good) : ∀ (n : Nat) (st : WkSt σ α) (r : Int × Int) (l q : Nat), WkOk (K := K) V st → (walkF K cb n st r l q).2.1 = true → WkOk (K := K) V (walkF K cb n st r l q).1
  | 0, st, r, l, q, h, _ => h
  | n + 1, (s, left, a), r, l, q, h, h2 => by
    obtain ⟨k1, k2, k3, k4⟩ := h
    simp only at k1 k2 k3 k4
    unfold walkF at h2 ⊢
    split
    · exact ⟨k1, k2, k3, k4⟩
    · rename_i h0
      rw [if_neg h0] at h2
      split
      · rename_i e; rw [if_pos e] at h2; cases h2
      · rename_i hl
        rw [if_neg hl] at h2
        cases hy : tgetF K s r l q with
        | mk s1 oe =>
          have hs1 : s1 = (K.get s r).1 := by rw [← tget_fst (K := K) (s := s) (r := r) (l := l) (q := q), hy]
          obtain ⟨ox, er⟩ := oe
          rw [hy] at h2
          cases ox with
          | none => cases h2
          | some x =>
            simp only at h2 ⊢
            split
            · rename_i e; rw [if_pos e] at h2; cases h2
            · rename_i e
              rw [if_neg e] at h2
              refine kidsF_keep V (walkF_keep hK n) x 16 0 _ ⟨?_, by show 0 ≤ left - 1; omega, by show left - 1 ≤ _; omega, ?_⟩ h2
              · rw [hs1]; exact hK.getR _ _ _ k1
              · refine V.step a r x _ ?_ (by simpa using e)
                show V.Rdy a ((left - 1).toNat + 1)
                rw [show (left - 1).toNat + 1 = left.toNat by omega]
                exact k4
end
/-- A loop over the children. -/
structure KdAt {σ α : Type} {K : SnkF σ} {cb : α → Int × Int → RN → α × Bool} (M : Snk K) (V : Vis cb) (w wr : World) (T g : Nat) (O Ov Ov' : Nat → Prop) (p : Int) (st : WkSt σ α) (X : Nat) (x : RN) (vv : Nat → Value) (vl : Value) : Prop where
  is : WkIs M V w T g O Ov Ov' p st wr
  nd : NdAt wr X x vv vl
  oX : WOut T g O Ov' X
  vp : ValsP (WOut T g O Ov') vv vl
  ok : WkOk (K := K) V st
  sz : w.heap.size ≤ wr.heap.size
theorem KdAt.drew {σ α : Type} {K : SnkF σ} {cb : α → Int × Int → RN → α × Bool} {M : Snk K} {V : Vis cb} {w wr : World} {T g : Nat} {O Ov Ov' : Nat → Prop} {p : Int} {st : WkSt σ α} {X : Nat} {x : RN} {vv : Nat → Value} {vl : Value} (h : KdAt M V w wr T g O Ov Ov' p st X x vv vl) {w2 : World} (hb : Below wr.heap.size wr w2) :
    KdAt M V w w2 T g O Ov Ov' p st X x vv vl := ⟨h.is.up hb, h.nd.up hb, h.oX, h.vp, h.ok, Nat.le_trans h.sz hb.size⟩
theorem or_low {P i : Nat} (hP : P < 16777216) (hi : i < 16) : bits .or .i64 ((P : Int) * 16) (i : Nat) = ((P * 16 + i : Nat) : Int) := by
  have h1 := (bits_nat .i64 63 (by decide) (fun n h0 h1 => IntWalk.i64_in _ (by have : (2 : Int) ^ 63 = 9223372036854775808 := (by decide); omega)) (P * 16) i (by omega) (by omega)).2
  rw [show ((P * 16 : Nat) : Int) = (P : Int) * 16 by simp] at h1
  rw [h1]
  congr 1
  rw [show P * 16 = 2 ^ 4 * P by omega]
  exact (Nat.two_pow_add_eq_or_of_lt (by omega : i < 2 ^ 4) P).symm
set_option maxRecDepth 100000 in
set_option maxHeartbeats 8000000 in
theorem walk_any {σ α : Type} {K : SnkF σ} {cb : α → Int × Int → RN → α × Bool} {M : Snk K} (hK : K.Good) (V : Vis cb) {T g : Nat} {O : Nat → Prop} {p : Int} : ∀ (n : Nat) (w : World) (st : WkSt σ α) (Ov : Nat → Prop) (r : Int × Int) (l q : Nat), 7 ≤ n + l → l ≤ 5 → q < 16777216 → WkAt M V w T g O Ov p st → WkOk (K := K) V st →
    Calls Try.prog 30 #[.pointer (some ⟨T, 0, none⟩), addrV r, .int .i64 (l : Nat), .int .i64 (q : Nat), .pointer (some ⟨g, 0, none⟩), .func (.func V.gf) #[] V.lb] w (WkPost M V w T g O Ov p (walkF K cb n st r l q)) := by
  intro n
  induction n with
  | zero => intro w st Ov r l q h1 h2; omega
  | succ n ih =>
    intro w st Ov r l q hnl hl hq h hok
    obtain ⟨s, left, a⟩ := st
    have HIH := Lib.hid ih
    clear ih
    obtain ⟨ra, rb⟩ := r
    have hst : walkF K cb (n + 1) (s, left, a) (ra, rb) l q = walkF K cb (n + 1) (s, left, a) (ra, rb) l q := rfl
    conv at hst => rhs; unfold walkF
    have HST := Lib.hid hst
    have H := Lib.hid h
    have lT := h.tr.lt
    have lg := h.lt
    obtain ⟨k1, k2, k3, k4⟩ := hok
    simp only at k1 k2 k3 k4
    have HK4 := Lib.hid k4
    have HK1 := Lib.hid k1
    have eV := V.ent
    clear h hst k4 k1
    unfold addrV
    go_enter Try.func30, Try.ntmps30
    go_upto_region 1 with (fail)
    refine wp_forget (fun W => Below w.heap.size w W ∧ BoxA W w.heap.size (ra, rb)) ⟨(Below.refl _ _).alloc (Nat.le_refl _) _, BoxA.new w _ (ra, rb)⟩ ?_
    rintro W0 ⟨hb0, hB7⟩
    have l7 := hB7.lt
    have c0 := hB7.1
    have c1 := hB7.2.1
    simp only at c0 c1
    have HB0 := Lib.hid hb0
    have HB7 := Lib.hid hB7
    have TV0 := Lib.hid ((WkIs.refl H.out).up hb0)
    have HO7 := Lib.hid (H.out.fresh (b := w.heap.size) (Nat.le_refl _))
    clear hb0 hB7
    by_cases h0 : (ra, rb) = ((0, 0) : Int × Int)
    · have e0 := eq_root ra rb
      simp only [h0] at e0
      have hst := HST.out
      rw [if_pos h0] at hst
      have HST2 := Lib.hid hst
      clear hst HST h0
      go_wp2
      go_ret2
      rw [HST2.out]
      exact ⟨Ov, rfl, TV0.out⟩
    · have e0 := eq_root ra rb
      simp only [h0, decide_false] at e0
      have hst := HST.out
      rw [if_neg h0] at hst
      clear h0 HST
      have cg := TV0.out.at_.cg
      have fg := TV0.out.at_.fg
      simp only at cg
      have lg0 := lt_of_cell cg
      go_upto_region 4 with (fail)
      clear e0
      have hwl : IntKind.i64.wrap (left - 1) = left - 1 := IntWalk.i64_in _ (by omega)
      refine wp_forget (fun W => WkIs M V w T g O Ov Ov p (s, left - 1, a) W ∧ BoxA W w.heap.size (ra, rb) ∧ W.heap.size = W0.heap.size) ?_ ?_
      · refine ⟨TV0.out.trans (TV0.out.at_.less (left - 1)), HB7.out.off (S := (· = g)) ((Off.refl (· = g) W0).setCell (p := ⟨g, 0, none⟩) rfl _) (by omega), by simp⟩
      rintro W1 ⟨hti, hB7, hs1⟩
      have TV1 := Lib.hid hti
      have HB71 := Lib.hid hB7
      have c0 := hB7.1
      have c1 := hB7.2.1
      simp only at c0 c1
      have cg := hti.at_.cg
      simp only at cg
      have l7 := hB7.lt
      clear hti hB7 hs1 fg
      by_cases hneg : left - 1 < 0
      · rw [if_pos hneg] at hst
        have HST2 := Lib.hid hst
        clear hst
        go_wp2
        go_ret2
        rw [HST2.out]
        exact ⟨Ov, rfl, TV1.out⟩
      rw [if_neg hneg] at hst
      obtain ⟨y, hy⟩ : ∃ y, tgetF K s (ra, rb) l q = y := ⟨_, rfl⟩
      obtain ⟨s1, ox, er⟩ := y
      rw [hy] at hst
      go_upto_region 6 with (fail)
      cases ox with
      | none =>
        have HG := Lib.hid (tget_err TV1.out.at_.tr (by omega) (by omega) hy)
        unfold addrV at HG
        simp only at hst
        have HST2 := Lib.hid hst
        clear hy hst
        go_wp2_with fail
        refine HG.out.mono ?_
        rintro e W2 ⟨rfl, her, htr, hof⟩
        have TV2 : Hid (WkIs M V w T g O Ov Ov p (s1, left - 1, a) W2) := Lib.hid (TV1.out.trans (TV1.out.at_.got htr hof))
        clear htr hof HG c0 c1 cg
        go_wp2
        go_ret2
        rw [HST2.out]
        exact ⟨Ov, rfl, TV2.out⟩
      | some x =>
        obtain ⟨rfl, hok, hlx, hfx, hs1, hg0⟩ := tgetF_some hy
        have hrb : Bd (ra, rb) := hK.getB s _ HK1.out hg0
        have hr1 : K.Rdy s1 0 := by rw [hs1]; exact hK.getR _ _ _ HK1.out
        have HG := Lib.hid (tget_ok TV1.out.at_.tr (by omega) (by omega) hy)
        unfold addrV at HG
        simp only at hst
        have HST1 := Lib.hid hst
        have HR1 := Lib.hid hr1
        clear hy hg0 hs1 hfx hr1 HK1 hst
        go_wp2_with fail
        refine HG.out.mono ?_
        rintro e W2 ⟨X, vv, vl, rfl, htr, hof, hnd, hX, hvi⟩
        have TV2 : Hid (WkIs M V w T g O Ov Ov p (s1, left - 1, a) W2) := Lib.hid (TV1.out.trans (TV1.out.at_.got htr hof))
        have HB72 := Lib.hid (HB71.out.off hof HO7.out.1)
        have hXo : WOut T g O Ov X := TV1.out.at_.fresh hX
        have HVP : Hid (ValsP (WOut T g O Ov) vv vl) := Lib.hid (hvi.p.mono fun b hb => TV1.out.at_.fresh hb.1)
        have hl6 := hok.lv
        have HN := Lib.hid hnd
        have HKO := Lib.hid hok
        have HRB := Lib.hid hrb
        have HXO := Lib.hid hXo
        have c0 := HB72.out.1
        have c1 := HB72.out.2.1
        simp only at c0 c1
        have l7' := HB72.out.lt
        clear htr hof hnd hvi hok HG hrb hXo hX HB71 cg HB7 TV1 TV0
        have HCB := Lib.hid (V.call (ra, rb) TV2.out.at_.iv (V.mono _ _ _ HK4.out (by omega)) HKO.out HRB.out HN.out HXO.out.2.1 (HVP.out.mono fun b hb => hb.2.1))
        unfold addrV at HCB
        have hcb2 : (cb a (ra, rb) x).2 = true → V.Rdy (cb a (ra, rb) x).1 (left - 1).toNat := fun e => V.step a (ra, rb) x _ (by rw [show (left - 1).toNat + 1 = left.toNat by omega]; exact HK4.out) e
        have hst := HST1.out
        clear HST1
        generalize cb a (ra, rb) x = y at *
        obtain ⟨a', go_on⟩ := y
        simp only at hst hcb2
        have HST1 := Lib.hid hst
        clear hst
        go_upto_region 7 with (fail)
        go_wp2_with fail
        refine HCB.out.mono ?_
        rintro e W3 ⟨Ov3, rfl, hiv, hof, hO3⟩
        have hsn := TV2.out.at_.seen hiv hof hO3
        have TV3 : Hid (WkIs M V w T g O Ov Ov3 p (s1, left - 1, a') W3) := Lib.hid (TV2.out.trans hsn)
        have hst := HST1.out
        clear HST1
        cases go_on with
        | false =>
          rw [if_pos rfl] at hst
          have HST2 := Lib.hid hst
          clear hst hsn hiv hof hO3
          go_wp2
          go_ret2
          rw [HST2.out]
          exact ⟨Ov3, rfl, TV3.out⟩
        | true =>
          rw [if_neg (by simp)] at hst
          have hnn := hsn.nd HXO.out HVP.out HN.out
          have HN3 := Lib.hid hnn.1
          have HXO3 := Lib.hid hnn.2.1
          have HVP3 := Lib.hid hnn.2.2
          have HHAS := Lib.hid hnn.1.hasAt
          have lX := hnn.1.lt
          have HST2 := Lib.hid hst
          have HK3 : Hid (WkOk (K := K) V (s1, left - 1, a')) := Lib.hid ⟨HR1.out, by show 0 ≤ left - 1; omega, by show left - 1 ≤ _; omega, hcb2 rfl⟩
          have hsz3 : w.heap.size ≤ W3.heap.size := TV3.out.off.size
          clear hst hsn hiv hof hO3 hnn HN HXO HVP HCB hcb2 c0 c1 TV2 HB72 HR1 HK4
          go_upto_region 9 with (fail)
          have HLEN : Hid ((Try.prog.info? 93).map (·.size) = some (hasL x.has).length) := Lib.hid (by rw [hasL_length]; exact agg_info)
          go_wp2_with (refine wpList_load_mid rfl 93 (.tmp 52) rfl X 50 rfl (hasL x.has) _ HHAS.out Try.underlying93 rfl HLEN.out ?_)
          go_loopw [54] (fun i wr => ∃ (j : Nat) (st' : WkSt σ α) (Ov' : Nat → Prop), j ≤ 16 ∧ i = .int .i64 (j : Nat) ∧ KdAt M V w wr T g O Ov Ov' p st' X x vv vl ∧ walkF K cb (n + 1) (s, left, a) (ra, rb) l q = kidsF (walkF K cb n) x (16 - j) j st') (fun i _ => 16 - (intOf i).toNat)
          case atStart => exact ⟨0, _, Ov3, by omega, rfl, ⟨TV3.out, HN3.out, HXO3.out, HVP3.out, HK3.out, hsz3⟩, HST2.out⟩
          case round =>
            obtain ⟨j, ⟨s', left', a9⟩, Ov', hj, rfl, hkd, hst⟩ := hrel
            have HKD := Lib.hid hkd
            have q0 := hkd.nd.level
            have q1 := hkd.nd.prefix_
            have lX9 := hkd.nd.lt
            have HP := Lib.hid (HKO.out.pr)
            have HST3 := Lib.hid hst
            clear hst hkd HST2 HK3 HN3 HXO3 HVP3 HHAS HLEN lX hsz3 TV3
            by_cases hj16 : j < 16
            · have hi := run_hasIdx wr x.has hj16
              obtain ⟨m, hm⟩ : ∃ m, 16 - j = m + 1 := ⟨15 - j, by omega⟩
              have hst := HST3.out
              rw [hm] at hst
              unfold kidsF at hst
              have em : m = 16 - (j + 1) := by omega
              cases hf : x.has j
              · rw [hf] at hi
                rw [if_pos (.inl hf), em] at hst
                have HST4 := Lib.hid hst
                clear hst HST3 hf em hm
                go_wp2
                go_roundw
                case rel => exact ⟨j + 1, _, Ov', by omega, by go_num, HKD.out, HST4.out⟩
                case measure => simp [intOf]; omega
              · rw [hf] at hi
                by_cases h5 : 5 ≤ x.level
                · rw [if_pos (.inr h5), em] at hst
                  have HST4 := Lib.hid hst
                  have i5 : (5 : Int) ≤ (x.level : Int) := by omega
                  clear hst HST3 hf em hm
                  go_wp2
                  go_roundw
                  case rel => exact ⟨j + 1, _, Ov', by omega, by go_num, HKD.out, HST4.out⟩
                  case measure => simp [intOf]; omega
                · rw [if_neg (by rw [hf]; simp; omega)] at hst
                  have hP : x.prefix_ < 16777216 := ok_prefix HKO.out (by omega)
                  have i5 : ¬ (5 : Int) ≤ (x.level : Int) := by omega
                  have hor := or_low hP hj16
                  have hpq : x.prefix_ * 16 + j < 16777216 := by
                    have h1 := HP.out (by omega)
                    have h2 : (16 : Nat) ^ x.level ≤ 16 ^ 4 := Nat.pow_le_pow_right (by omega) (by omega)
                    omega
                  obtain ⟨q', hq'⟩ : ∃ q', q' = x.prefix_ * 16 + j := ⟨_, rfl⟩
                  rw [← hq'] at hor hst hpq
                  have HKC := Lib.hid (fun W (hb : Below wr.heap.size wr W) => HIH.out W (s', left', a9) Ov' (x.kids j) (x.level + 1) q' (by omega) (by omega) hpq (HKD.out.drew hb).is.at_ HKD.out.ok)
                  obtain ⟨k0, k1⟩ := HKD.out.nd.kid hj16
                  have HST4 := Lib.hid hst
                  clear hst HST3 hf hm hq'
                  unfold addrV at HKC
                  go_upto_region 13 with (fail)
                  refine wp_region_up_tail 21 (by kernel_rfl) (by kernel_rfl) (by kernel_rfl) ?_
                  simp only [List.take_succ_cons, List.take_zero, List.drop_succ_cons, List.drop_zero]
                  repeat (go_big_quiet_step (fail))
                  refine wpQuiet_nil ?_
                  rintro _ ⟨g9, rfl⟩
                  go_wp2_with fail
                  refine (HKC.out g9.world g9.h).mono ?_
                  rintro e W9 ⟨Ov9, rfl, hwk⟩
                  have hkd0 := HKD.out.drew g9.h
                  have hnd9 := hwk.nd hkd0.oX hkd0.vp hkd0.nd
                  have hkp := walkF_keep V hK n (s', left', a9) (x.kids j) (x.level + 1) q' HKD.out.ok
                  have his := hkd0.is.trans hwk
                  have hsz9 := Nat.le_trans hkd0.sz hwk.off.size
                  have hst := HST4.out
                  clear HST4 HKC
                  generalize walkF K cb n (s', left', a9) (x.kids j) (x.level + 1) q' = y9 at *
                  obtain ⟨st9, more, er9⟩ := y9
                  simp only at hst his hkp
                  have HIS := Lib.hid his
                  have HN9 := Lib.hid hnd9
                  clear his hnd9 hwk hkd0 k0 k1 q0 q1 hi
                  cases more with
                  | true =>
                    rw [if_pos rfl, em] at hst
                    have HST5 := Lib.hid hst
                    have HKP := Lib.hid (hkp rfl)
                    clear hst hkp em
                    go_wp2
                    go_roundw
                    case rel => exact ⟨j + 1, st9, Ov9, by omega, by go_num, ⟨HIS.out, HN9.out.1, HN9.out.2.1, HN9.out.2.2, HKP.out, hsz9⟩, HST5.out⟩
                    case measure => simp [intOf]; omega
                  | false =>
                    rw [if_neg (by simp)] at hst
                    have HST5 := Lib.hid hst
                    clear hst hkp em
                    go_wp2
                    go_ret2
                    rw [HST5.out]
                    exact ⟨Ov9, rfl, HIS.out⟩
            · obtain rfl : j = 16 := by omega
              have hst := HST3.out
              simp only [Nat.sub_self, kidsF] at hst
              have HST4 := Lib.hid hst
              clear hst HST3
              go_wp2
              go_ret2
              rw [HST4.out]
              exact ⟨Ov', rfl, HKD.out.is⟩
end Go.Proofs.Ytgkdggidgaifhaa
