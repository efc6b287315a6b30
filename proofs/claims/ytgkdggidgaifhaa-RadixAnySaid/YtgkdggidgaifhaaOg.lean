/- radix: set. Printed by gen_og.py. -/
import Derived.Test.YtgkdggidgaifhaaOf
namespace Go.Proofs.Ytgkdggidgaifhaa
open Go.RowKit
set_option linter.unusedVariables false
set_option linter.unusedSimpArgs false

theorem RN.Ok.setVal {x : RN} (h : x.Ok) {L : Bytes} (hL : L.length ≤ 256) : ({ x with val := L } : RN).Ok := ⟨h.lv, h.pr, h.ky, h.kd, h.vs, hL⟩
theorem RN.Ok.setHas {x : RN} (h : x.Ok) (f : Nat → Bool) : ({ x with has := f } : RN).Ok := ⟨h.lv, h.pr, h.ky, h.kd, h.vs, h.v⟩
theorem RN.Ok.setVals {x : RN} (h : x.Ok) {i : Nat} {L : Bytes} (hL : L.length ≤ 256) : ({ x with vals := upd x.vals i L } : RN).Ok := ⟨h.lv, h.pr, h.ky, h.kd, fun j hj => by
  simp only [upd]
  split
  · exact hL
  · exact h.vs j hj, h.v⟩
theorem RN.Ok.setKids {x : RN} (h : x.Ok) {i : Nat} {a : Int × Int} (ha : Bd a) : ({ x with kids := upd x.kids i a } : RN).Ok := ⟨h.lv, h.pr, h.ky, fun j hj => by
  simp only [upd]
  split
  · exact ha
  · exact h.kd j hj, h.vs, h.v⟩
theorem RN.Ok.setHV {x : RN} (h : x.Ok) (f : Nat → Bool) {i : Nat} {L : Bytes} (hL : L.length ≤ 256) : ({ x with has := f, vals := upd x.vals i L } : RN).Ok := ⟨h.lv, h.pr, h.ky, h.kd, (h.setVals hL).vs, h.v⟩
theorem RN.Ok.setHKd {x : RN} (h : x.Ok) (f : Nat → Bool) {i : Nat} {a : Int × Int} (ha : Bd a) : ({ x with has := f, kids := upd x.kids i a } : RN).Ok := ⟨h.lv, h.pr, h.ky, (h.setKids ha).kd, h.vs, h.v⟩
theorem pack_ne {x : RN} (h : x.Ok) {key : Nat} (hk : key < 16777216) (hn : ¬ (x.level = 6 ∧ x.key = key)) (hp : x.level = 6 ∨ frontN key x.level ≠ x.prefix_) : x.some ≠ key := by
  intro e
  rcases Nat.lt_or_ge x.level 6 with h6 | h6
  · have hp2 : frontN key x.level ≠ x.prefix_ := by rcases hp with hp | hp; omega; exact hp
    refine hp2 ?_
    rw [← e]
    unfold RN.some frontN
    rw [if_neg (by omega)]
    exact Nat.mul_div_cancel _ (Nat.pow_pos (by omega))
  · have h7 : x.level = 6 := by have := h.lv; omega
    refine hn ⟨h7, ?_⟩
    rw [← e]
    unfold RN.some
    rw [if_pos h7]
section
variable {σ : Type} {K : SnkF σ} (hK : K.Good)
include hK
theorem tput_good {s : σ} {p : Int} {m : Nat} (hr : K.Rdy s (m + 1)) {x : RN} (hx : x.Ok) : K.Rdy (tputF K (s, p) x).1.1 m ∧ ((tputF K (s, p) x).2.2 = 0 → Bd (tputF K (s, p) x).2.1) :=
  ⟨tput_rdy hK hr hx, tput_bd hK (hK.mono _ _ _ hr (by omega)) hx⟩
theorem pairF_good {s : σ} {p : Int} {m : Nat} {r : Int × Int} (hb : Bd r) {x : RN} (hx : x.Ok) {key : Nat} (hk : key < 16777216) {v : Bytes} (hv : v.length ≤ 256) (hr : K.Rdy s (m + 2)) :
    K.Rdy (pairF K (s, p) r x key v).1.1 m ∧ ((pairF K (s, p) r x key v).2.2 = 0 → Bd (pairF K (s, p) r x key v).2.1) := by
  unfold pairF
  split
  · exact tput_good hK (hK.mono _ _ _ hr (by omega)) (pair0_vals_ok (front_lt hk (by omega)) hx.v hv)
  · have h1 := tput_good hK (p := p) (m := m + 1) hr (lone_ok hk hv)
    generalize tputF K (s, p) (loneR key v) = y at h1
    obtain ⟨st1, leaf, er⟩ := y
    simp only at h1 ⊢
    split
    · rename_i he
      exact ⟨hK.mono _ _ _ h1.1 (by omega), fun e => absurd e he⟩
    · rename_i he
      have hf := forkN_le x.some key
      exact tput_good hK (s := st1.1) (p := st1.2) h1.1 (pair0_kids_ok hf (front_lt hk (by omega)) hb (h1.2 (Decidable.of_not_not he)))
theorem setF_good {key : Nat} (hk : key < 16777216) {v : Bytes} (hv : v.length ≤ 256) : ∀ (n l : Nat) (s : σ) (p : Int) (r : Int × Int) (q m : Nat), 7 ≤ n + l → l ≤ 5 → K.Rdy s (m + (7 - l)) →
    K.Rdy (setF K n (s, p) r l q key v).1.1 m ∧ ((setF K n (s, p) r l q key v).2.2 = 0 → Bd (setF K n (s, p) r l q key v).2.1) := by
  intro n
  induction n with
  | zero => intro l s p r q m h1 h2; omega
  | succ n ih =>
    intro l s p r q m h1 h2 hr
    unfold setF
    split
    · exact tput_good hK (hK.mono _ _ _ hr (by omega)) (lone_ok hk hv)
    · simp only
      cases hg : tgetF K s r l q with
      | mk s1 oe =>
        obtain ⟨ox, er⟩ := oe
        have hs1 : s1 = (K.get s r).1 := by
          have := congrArg Prod.fst hg
          simp only at this
          rw [← this]
          unfold tgetF
          split
          · rfl
          · split
            · rfl
            · split <;> rfl
        have hr1 : K.Rdy s1 (m + (7 - l)) := by rw [hs1]; exact hK.getR _ _ _ hr
        cases ox with
        | none =>
          simp only
          exact ⟨hK.mono _ _ _ hr1 (by omega), fun _ => bd0⟩
        | some x =>
          obtain ⟨he, hok, hle, hfx, _, hg0⟩ := tgetF_some hg
          have hbr : Bd r := hK.getB s r (hK.mono _ _ _ hr (by omega)) hg0
          simp only
          split
          · split
            · exact ⟨hK.mono _ _ _ hr1 (by omega), fun _ => hbr⟩
            · exact tput_good hK (hK.mono _ _ _ hr1 (by omega)) (hok.setVal hv)
          · split
            · exact pairF_good hK hbr hok hk hv (hK.mono _ _ _ hr1 (by omega))
            · rename_i h6 hp
              have hl5 : x.level ≤ 5 := by
                have := hok.lv
                rcases Nat.lt_or_ge x.level 6 with h | h
                · omega
                · exact absurd (Or.inl (by omega)) hp
              split
              · split
                · exact ⟨hK.mono _ _ _ hr1 (by omega), fun _ => hbr⟩
                · exact tput_good hK (hK.mono _ _ _ hr1 (by omega)) (hok.setHV _ hv)
              · rename_i h5
                have h3 := ih (x.level + 1) s1 p (if x.has (digN key x.level) = true then x.kids (digN key x.level) else (0, 0)) (frontN key (x.level + 1)) (m + 1) (by omega) (by omega) (hK.mono _ _ _ hr1 (by omega))
                generalize setF K n (s1, p) (if x.has (digN key x.level) = true then x.kids (digN key x.level) else (0, 0)) (x.level + 1) (frontN key (x.level + 1)) key v = y at h3
                obtain ⟨st2, made, e2⟩ := y
                simp only at h3 ⊢
                split
                · exact ⟨hK.mono _ _ _ h3.1 (by omega), fun _ => hbr⟩
                · rename_i hne
                  exact tput_good hK (s := st2.1) (p := st2.2) h3.1 (hok.setHKd _ (h3.2 (Decidable.of_not_not fun e => hne (.inl e))))
end
def SetUp {σ : Type} {K : SnkF σ} (M : Snk K) (V W : World) (T : Nat) (O : Nat → Prop) (y : (σ × Int) × (Int × Int) × Int) (e : Ending) (w' : World) : Prop :=
  ∃ O1 : Nat → Prop, e = .returned (.tuple #[.agg #[.int .i64 y.2.1.1, .int .i64 y.2.1.2], .int .i64 y.2.2]) ∧ TrIs M V T O O1 y.1 w' ∧ TrIs M W T O O1 y.1 w'
theorem SetUp.of {σ : Type} {K : SnkF σ} {M : Snk K} {V W : World} {T : Nat} {O : Nat → Prop} {y : (σ × Int) × (Int × Int) × Int} (hb : Below V.heap.size V W) {f : FuncId} {args : Array Value} (h : Calls Try.prog f args W (TrPost M W T O y)) : Calls Try.prog f args W (SetUp M V W T O y) :=
  h.mono fun e w' hp => by
    obtain ⟨O1, he, hti⟩ := hp.is
    exact ⟨O1, he, hti.early hb, hti⟩
theorem eq_addr (a b c d : Int) (w : World) : (Op.equalIn 10000 30 (.agg #[.int .i64 a, .int .i64 b]) (.agg #[.int .i64 c, .int .i64 d])).run Try.prog w = .ok (decide ((a, b) = (c, d))) w := by
  have h : (Op.equalIn 10000 30 (.agg #[.int .i64 a, .int .i64 b]) (.agg #[.int .i64 c, .int .i64 d])).run Try.prog w = .ok (a == c && b == d) w := by
    rw [run_equalIn_agg (P := Try.prog) w 9999 30 _ _ (by kernel_rfl) (by kernel_rfl)]
    cases h1 : a == c <;> cases h2 : b == d <;> simp [go_sem, h1, h2] <;> simp_all
  have h2 : (a == c && b == d) = decide ((a, b) = (c, d)) := by
    rw [Bool.eq_iff_iff]
    simp [Prod.ext_iff]
  rw [h, h2]
/-- Behind the inner set. -/
structure SetMid {σ : Type} {K : SnkF σ} (M : Snk K) (w V : World) (T : Nat) (O O' : Nat → Prop) (st : σ × Int) (r : Int × Int) (X : Nat) (x : RN) (vv : Nat → Value) (vl : Value) (g17 : Nat) (kid : Int × Int) (g18 : Nat) (made : Int × Int) : Prop where
  tr : TrIs M w T O O' st V
  b7 : BoxA V w.heap.size r
  b12 : BoxA V (w.heap.size + 1) (0, 0)
  b17 : BoxA V g17 kid
  b18 : BoxA V g18 made
  nd : NdAt V X x vv vl
  o12 : Out O' T (w.heap.size + 1)
  oX : Out O' T X
  ne : X ≠ g18 ∧ w.heap.size ≠ X ∧ w.heap.size + 1 ≠ X ∧ X ≠ g17
theorem SetMid.of {σ : Type} {K : SnkF σ} {M : Snk K} {w V2 V3 V4 : World} {T : Nat} {O O' : Nat → Prop} {st st2 : σ × Int} {r : Int × Int} {X : Nat} {x : RN} {vv : Nat → Value} {vl : Value} {g17 : Nat} {kid : Int × Int} {g18 : Nat} {made : Int × Int}
    (tv : TrIs M w T O O st V2) (h7 : BoxA V2 w.heap.size r) (h12 : BoxA V2 (w.heap.size + 1) (0, 0)) (h17 : BoxA V2 g17 kid) (hn : NdAt V2 X x vv vl) (hv : ValsP (Out O T) vv vl) (oX : Out O T X) (o7 : Out O T w.heap.size) (o12 : Out O T (w.heap.size + 1)) (o17 : Out O T g17)
    (hX : w.heap.size + 1 < X) (hXg : X < g17) (hti : TrIs M V2 T O O' st2 V3) (ho : Off (· = g18) V3 V4) (o18 : Out O' T g18) (hB : V2.heap.size ≤ g18) (h18 : BoxA V4 g18 made) : SetMid M w V4 T O O' st2 r X x vv vl g17 kid g18 made := by
  have l7 := h7.lt
  have l12 := h12.lt
  have l17 := h17.lt
  obtain ⟨n1, n2, n3⟩ := hti.nd oX hv hn
  refine ⟨(tv.trans hti).step ho (fun k e => by cases e; exact ⟨o18, .inl (by have := tv.off.size; omega)⟩), (hti.box o7 h7).off ho (by omega), (hti.box o12 h12).off ho (by omega), (hti.box o17 h17).off ho (by omega), h18, ?_, hti.out o12 l12, n2, by omega, by omega, by omega, by omega⟩
  refine n1.offP ho (by omega) ⟨fun i hi b o n c e h0 e2 => ?_, fun b o n c e h0 e2 => ?_⟩
  · have := hn.inl.1 i hi b o n c e h0
    omega
  · have := hn.inl.2 b o n c e h0
    omega
set_option maxRecDepth 100000 in
set_option maxHeartbeats 8000000 in
theorem set_any {σ : Type} {K : SnkF σ} {M : Snk K} (hK : K.Good) {T key : Nat} (hk : key < 16777216) {L : Bytes} (hL : L.length ≤ 256) {v : Value} : ∀ (n : Nat) (w : World) (s : σ) (p : Int) (O : Nat → Prop) (r : Int × Int) (l q : Nat), 7 ≤ n + l → l ≤ 5 → q < 9223372036854775808 → TrAt M w T O s p → K.Rdy s (7 - l) → SlB w v L → VIn (Out O T) v →
    Calls Try.prog 36 #[.pointer (some ⟨T, 0, none⟩), addrV r, .int .i64 (l : Nat), .int .i64 (q : Nat), .int .i64 (key : Nat), v] w (TrPost M w T O (setF K n (s, p) r l q key L)) := by
  intro n
  induction n with
  | zero => intro w s p O r l q h1 h2; omega
  | succ n ih =>
    intro w s p O r l q hnl hl hq h hr hv hvo
    obtain ⟨Av, nv, cv, rfl, hcv, hsv⟩ := hv
    have hv : SlB w (.slice Av nv cv) L := ⟨Av, nv, cv, rfl, hcv, hsv⟩
    have HIH := Lib.hid ih
    clear ih
    obtain ⟨ra, rb⟩ := r
    have hst : setF K (n + 1) (s, p) (ra, rb) l q key L = setF K (n + 1) (s, p) (ra, rb) l q key L := rfl
    conv at hst => rhs; unfold setF
    have HST := Lib.hid hst
    have H := Lib.hid h
    have HV := Lib.hid hv
    have HVO := Lib.hid hvo
    have lT := h.lt
    have hlv := hsv.1
    clear h hv hvo hst hcv hsv
    unfold addrV
    go_enter Try.func36, Try.ntmps36
    go_upto_region 1 with (fail)
    refine wp_forget (fun W => Below w.heap.size w W ∧ BoxA W w.heap.size (ra, rb) ∧ BoxA W (w.heap.size + 1) (0, 0)) (two_boxes w (ra, rb) _ _) ?_
    rintro W0 ⟨hb0, hB7, hB12⟩
    have l7 := hB7.lt
    have l12 := hB12.lt
    have c0 := hB7.1
    have c1 := hB7.2.1
    simp only at c0 c1
    have HB0 := Lib.hid hb0
    have HB7 := Lib.hid hB7
    have HB12 := Lib.hid hB12
    have TV0 := Lib.hid ((TrIs.refl H.out).up hb0)
    have HO7 := Lib.hid (H.out.outOf (g := w.heap.size) (Nat.le_refl _))
    have HO12 := Lib.hid (H.out.outOf (g := w.heap.size + 1) (by omega))
    have HV0 := Lib.hid (HV.out.up hb0)
    clear hb0 hB7 hB12
    by_cases h0 : (ra, rb) = ((0, 0) : Int × Int)
    · have e0 := eq_root ra rb
      simp only [h0] at e0
      have hst := HST.out
      rw [if_pos h0] at hst
      have HST2 := Lib.hid hst
      have HPU := Lib.hid (fun t => tput_lone TV0.out.tr (hK.mono _ _ _ hr (by omega)) hk HV0.out hL t)
      clear hst HST h0
      go_upto_region 2 with (fail)
      clear e0 c0 c1
      go_wp2_with fail
      refine (HPU.out _).mono ?_
      rintro e V9 hp
      obtain ⟨O9, he, hti⟩ := hp.is
      have hpf := HST2.out
      generalize tputF K (s, p) (loneR key L) = y at *
      unfold addrV at he
      subst he
      have HPF9 := Lib.hid hpf
      have HTI9 := Lib.hid hti
      have HBX := Lib.hid (hti.box HO12.out HB12.out)
      have HBO9 := Lib.hid (hti.out HO12.out HB12.out.lt)
      have u0 := HBX.out.1
      have u1 := HBX.out.2.1
      have u2 := HBX.out.2.2 0
      have u3 := HBX.out.2.2 1
      clear hp hti hpf
      go_wp2
      have hfin := (TV0.out.trans HTI9.out).ret HBX.out HBO9.out (by omega)
      rw [HPF9.out]
      refine bodyPost_ret (results_addr rfl _ _ _ _ _ rfl hfin.1 hfin.2.1) rfl ?_
      exact hfin.2.2
    · have e0 := eq_root ra rb
      simp only [h0, decide_false] at e0
      have hst := HST.out
      rw [if_neg h0] at hst
      simp only at hst
      clear h0 HST
      go_upto_region 3 with (fail)
      clear e0
      obtain ⟨y, hy⟩ : ∃ y, tgetF K s (ra, rb) l q = y := ⟨_, rfl⟩
      obtain ⟨s1, ox, er⟩ := y
      rw [hy] at hst
      cases ox with
      | none =>
        have HG := Lib.hid (tget_err TV0.out.tr (by omega) hq hy)
        unfold addrV at HG
        simp only at hst
        have HST2 := Lib.hid hst
        clear hy hst
        go_wp2_with fail
        refine HG.out.mono ?_
        rintro e V ⟨rfl, her, htr, hof⟩
        have TV1 : Hid (TrIs M w T O O (s1, p) V) := Lib.hid (TV0.out.trans ⟨htr, hof.mono fun _ e => .inl e, fun k e => .inl e⟩)
        have HB12' := Lib.hid (HB12.out.off hof HO12.out.1)
        clear htr hof HG c0 c1
        have u0 := HB12'.out.1
        have u1 := HB12'.out.2.1
        have u2 := HB12'.out.2.2 0
        have u3 := HB12'.out.2.2 1
        go_wp2
        have hfin := TrIs.ret (y := ((s1, p), (0, 0), er)) TV1.out HB12'.out HO12.out (by omega)
        rw [HST2.out]
        refine bodyPost_ret (results_addr rfl _ _ _ _ _ rfl hfin.1 hfin.2.1) rfl ?_
        exact hfin.2.2
      | some x =>
        obtain ⟨rfl, hok, hlx, hfx, hs1, hg0⟩ := tgetF_some hy
        have hrb : Bd (ra, rb) := hK.getB s _ (hK.mono _ _ _ hr (by omega)) hg0
        have hr1 : K.Rdy s1 (7 - l) := by rw [hs1]; exact hK.getR _ _ _ hr
        have HG := Lib.hid (tget_ok TV0.out.tr (by omega) hq hy)
        unfold addrV at HG
        simp only at hst
        have HST2 := Lib.hid hst
        clear hy hst hg0 hs1 hr hfx
        go_wp2_with fail
        refine HG.out.mono ?_
        rintro e V ⟨X, vv, vl, rfl, htr, hof, hnd, hX, hvi⟩
        have TV1 : Hid (TrIs M w T O O (s1, p) V) := Lib.hid (TV0.out.trans ⟨htr, hof.mono fun _ e => .inl e, fun k e => .inl e⟩)
        have HB12' := Lib.hid (HB12.out.off hof HO12.out.1)
        have HB7' := Lib.hid (HB7.out.off hof HO7.out.1)
        have HV1 := Lib.hid (HV0.out.offP hof (HVO.out.mono fun b hb => hb.1))
        have hXo : Out O T X := H.out.outOf (Nat.le_trans HB0.out.size hX)
        have HVI : Hid (ValsP (fun b => w.heap.size ≤ b ∧ b ≠ X) vv vl) := Lib.hid (hvi.p.mono fun b hb => ⟨Nat.le_trans HB0.out.size hb.1, hb.2⟩)
        have HVP : Hid (ValsP (Out O T) vv vl) := Lib.hid (hvi.p.mono fun b hb => H.out.outOf (Nat.le_trans HB0.out.size hb.1))
        obtain ⟨Al, nl, cl, rfl, hcl, hsl⟩ := hnd.v
        have hl6 := hok.lv
        have HN := Lib.hid hnd
        have HK := Lib.hid hok
        have q0 := hnd.level
        have q1 := hnd.prefix_
        have q2 := hnd.key
        have q3 := hnd.val
        have lX := hnd.lt
        have l7' := HB7'.out.lt
        have l12' := HB12'.out.lt
        have HRB := Lib.hid hrb
        have HXO := Lib.hid hXo
        have c0 := HB7'.out.1
        have c1 := HB7'.out.2.1
        simp only at c0 c1
        have sX : w.heap.size + 1 < X := by omega
        clear htr hof hnd hvi hok HG hrb hXo hX HB7 HB12 hcl hsl
        obtain ⟨lv, hlv⟩ : ∃ lv, lv = x.level := ⟨_, rfl⟩
        rw [← hlv] at q0 hl6 hlx
        have HLV := Lib.hid hlv
        by_cases h6 : lv = 6
        · have hb6 : ((lv : Int) == 6) = true := by simp; omega
          have i6 : 5 ≤ (lv : Int) := by omega
          have HD5 : Hid (∀ W, Calls Try.prog 39 #[.int .i64 (key : Nat), .int .i64 5] W fun e w' => e = .returned (.int .i64 (digN key 5 : Nat)) ∧ W = w') := Lib.hid (fun W => (digit_any W (l := 5) (by omega) (by omega)).mono fun e w' h => ⟨h.1, h.2.symm⟩)
          have HX6 : Hid (x.level = 6) := Lib.hid (by rw [← HLV.out]; exact h6)
          clear hlv
          go_upto_region 7 with (go_at_call 39; refine (HD5.out _).mono ?_; rintro e w' ⟨rfl, rfl⟩)
          by_cases hke : x.key = key
          · have hb7 : ((x.key : Int) == (key : Int)) = true := by simp; omega
            have hst := HST2.out
            rw [if_pos ⟨HX6.out, hke⟩] at hst
            clear hke HST2
            have HEQ : Hid (Calls Try.prog 49 #[.slice Al nl cl, .slice Av nv cv] V fun e w' => e = .returned (.bool (decide (x.val = L))) ∧ V = w') := by
              obtain ⟨A1, n1, c1', e1, _, s1⟩ := HN.out.v
              obtain ⟨A2, n2, c2', e2, _, s2⟩ := HV1.out
              cases e1
              cases e2
              exact Lib.hid ((equal_any V Al Av nl cl nv cv _ _ s1 s2).mono fun e w' h => ⟨h.1, h.2.symm⟩)
            by_cases hvl : x.val = L
            · rw [if_pos hvl] at hst
              have HST4 := Lib.hid hst
              have HE2 := HEQ.out
              rw [decide_eq_true hvl] at HE2
              have HE3 := Lib.hid HE2
              clear hst hvl HEQ HE2
              go_upto_region 9 with (go_at_call 49; refine HE3.out.mono ?_; rintro e w' ⟨rfl, rfl⟩)
              have u0 := HB12'.out.1
              have u1 := HB12'.out.2.1
              have u2 := HB12'.out.2.2 0
              have u3 := HB12'.out.2.2 1
              go_wp2
              have hfin := TrIs.ret (y := ((s1, p), (ra, rb), 0)) TV1.out HB12'.out HO12.out (by omega)
              rw [HST4.out]
              refine bodyPost_ret (results_addr rfl _ _ _ _ _ rfl hfin.1 hfin.2.1) rfl ?_
              exact hfin.2.2
            · rw [if_neg hvl] at hst
              have HST4 := Lib.hid hst
              have HE2 := HEQ.out
              rw [decide_eq_false hvl] at HE2
              have HE3 := Lib.hid HE2
              have qf := HN.out.free 67
              clear hst hvl HEQ HE2
              go_upto_region 11 with (go_at_call 49; refine HE3.out.mono ?_; rintro e w' ⟨rfl, rfl⟩)
              refine wp_forget (fun W => Off (· = X) V W ∧ NdAt W X { x with val := L } vv (.slice Av nv cv)) ⟨(Off.refl (· = X) V).setCell (p := ⟨X, 67, none⟩) rfl _, HN.out.setValP (Vb := fun b => ¬ b = X) ⟨fun j hj b o n c e h0 => (HVI.out.1 j hj b o n c e h0).2, fun b o n c e h0 => (HVI.out.2 b o n c e h0).2⟩ (fun e => e rfl) HV1.out (fun b o n c e h0 => by have := HV.out.inl b o n c e h0; omega)⟩ ?_
              rintro V2 ⟨ho2, hn2⟩
              have TV2 := Lib.hid (TV1.out.step ho2 (fun k e => by cases e; exact ⟨HXO.out, .inl (by omega)⟩))
              have HB122 := Lib.hid (HB12'.out.off ho2 (by omega))
              have HPU := Lib.hid (tput_any TV2.out.tr (hK.mono _ _ _ hr1 (by omega)) hn2 (HK.out.setVal hL))
              clear ho2 hn2 q0 q1 q2 q3 qf c0 c1
              go_wp2_with fail
              refine HPU.out.mono ?_
              rintro e V9 hp
              obtain ⟨O9, he, hti⟩ := hp.is
              have hpf := HST4.out
              generalize tputF K (s1, p) { x with val := L } = y at *
              unfold addrV at he
              subst he
              have HPF9 := Lib.hid hpf
              have HTI9 := Lib.hid hti
              have HBX := Lib.hid (hti.box HO12.out HB122.out)
              have HBO9 := Lib.hid (hti.out HO12.out HB122.out.lt)
              have u0 := HBX.out.1
              have u1 := HBX.out.2.1
              have u2 := HBX.out.2.2 0
              have u3 := HBX.out.2.2 1
              clear hp hti hpf
              go_wp2
              have hfin := (TV2.out.trans HTI9.out).ret HBX.out HBO9.out (by omega)
              rw [HPF9.out]
              refine bodyPost_ret (results_addr rfl _ _ _ _ _ rfl hfin.1 hfin.2.1) rfl ?_
              exact hfin.2.2
          · have hb7 : ((x.key : Int) == (key : Int)) = false := by simp; omega
            have hst := HST2.out
            rw [if_neg (fun e => hke e.2), if_pos (.inl HX6.out)] at hst
            have HST4 := Lib.hid hst
            have HPU := Lib.hid (fun (W : World) (hb : Below V.heap.size V W) => pair_any hK (TV1.out.tr.up hb) (hK.mono _ _ _ hr1 (by omega)) HRB.out (HN.out.up hb) HK.out HXO.out HVP.out hk (HV1.out.up hb) hL HVO.out (pack_ne HK.out hk (fun e => hke e.2) (.inl HX6.out)))
            unfold addrV at HPU
            clear hst hke HST2
            go_upto_region 12 with (fail)
            refine wp_region_up (by kernel_rfl) (by kernel_rfl) ?_
            repeat (go_big_quiet_step (fail))
            refine wpQuiet_nil ?_
            rintro _ ⟨g, rfl⟩
            have HB123 := Lib.hid (HB12'.out.off (S := fun _ => False) (Off.of_below g.h) id)
            have TV3 := Lib.hid (TV1.out.up g.h)
            go_wp2_with fail
            refine (HPU.out _ g.h).mono ?_
            rintro e V9 hp
            obtain ⟨O9, he, hti⟩ := hp.is
            have hpf := HST4.out
            generalize pairF K (s1, p) (ra, rb) x key L = y at *
            unfold addrV at he
            subst he
            have HPF9 := Lib.hid hpf
            have HTI9 := Lib.hid hti
            have HBX := Lib.hid (hti.box HO12.out HB123.out)
            have HBO9 := Lib.hid (hti.out HO12.out HB123.out.lt)
            have u0 := HBX.out.1
            have u1 := HBX.out.2.1
            have u2 := HBX.out.2.2 0
            have u3 := HBX.out.2.2 1
            clear hp hti hpf
            go_wp2
            have hfin := (TV3.out.trans HTI9.out).ret HBX.out HBO9.out (by omega)
            rw [HPF9.out]
            refine bodyPost_ret (results_addr rfl _ _ _ _ _ rfl hfin.1 hfin.2.1) rfl ?_
            exact hfin.2.2
        · have hb6 : ((lv : Int) == 6) = false := by simp; omega
          have HX6 : Hid (¬ x.level = 6) := Lib.hid (by rw [← HLV.out]; exact h6)
          have hl5 : lv ≤ 5 := by omega
          obtain ⟨d, hd⟩ : ∃ d, digN key lv = d := ⟨_, rfl⟩
          obtain ⟨f, hf⟩ : ∃ f, frontN key lv = f := ⟨_, rfl⟩
          have hd16 : d < 16 := by rw [← hd]; exact digN_lt _ _
          have hdI : (d : Int) < 16 := by omega
          have HDI : Hid (∀ W : World, Calls Try.prog 39 #[.int .i64 (key : Nat), .int .i64 (lv : Nat)] W fun e w' => e = .returned (.int .i64 (d : Nat)) ∧ W = w') := Lib.hid (fun W => by rw [← hd]; exact (digit_any W (by omega) (by omega)).mono fun e w' h => ⟨h.1, h.2.symm⟩)
          have HD5 : Hid (5 ≤ (lv : Int) → ∀ W : World, Calls Try.prog 39 #[.int .i64 (key : Nat), .int .i64 5] W fun e w' => e = .returned (.int .i64 (d : Nat)) ∧ W = w') := by
            refine Lib.hid (fun h5 W => ?_)
            have e5 : lv = 5 := by omega
            rw [← hd, e5]
            exact (digit_any W (l := 5) (by omega) (by omega)).mono fun e w' h => ⟨h.1, h.2.symm⟩
          have HFR : Hid (∀ g : Up V, Calls Try.prog 38 #[.int .i64 (key : Nat), .int .i64 (lv : Nat)] g.world fun e w' => e = .returned (.int .i64 (f : Nat)) ∧ ∃ g' : Up V, w' = g'.world) := Lib.hid (fun g => by rw [← hf]; exact front_up (by omega) (by omega))
          have HD := Lib.hid hd
          have HF := Lib.hid hf
          clear hd hf hlv h6
          go_upto_region 7 with (first | (go_at_call 39; with_reducible refine (HDI.out _).mono ?_; rintro e w' ⟨rfl, rfl⟩) | (go_at_call 39; with_reducible refine (HD5.out (by assumption) _).mono ?_; rintro e w' ⟨rfl, rfl⟩))
          go_upto_region 12 with (fail)
          by_cases hfp : f = x.prefix_
          case neg =>
            have hb8 : ((f : Int) != (x.prefix_ : Int)) = true := by simp; omega
            have hst := HST2.out
            rw [if_neg (fun e => HX6.out e.1), if_pos (.inr (by rw [← HLV.out, HF.out]; exact hfp))] at hst
            have HST4 := Lib.hid hst
            have HPU := Lib.hid (fun (W : World) (hb : Below V.heap.size V W) => pair_any hK (TV1.out.tr.up hb) (hK.mono _ _ _ hr1 (by omega)) HRB.out (HN.out.up hb) HK.out HXO.out HVP.out hk (HV1.out.up hb) hL HVO.out (pack_ne HK.out hk (fun e => HX6.out e.1) (.inr (by rw [← HLV.out, HF.out]; exact hfp))))
            unfold addrV at HPU
            clear hst hfp HST2
            refine wp_region_up (by kernel_rfl) (by kernel_rfl) ?_
            repeat (go_big_quiet_step (first | (go_at_call 38; exact HFR.out _)))
            refine wpQuiet_nil ?_
            rintro _ ⟨g, rfl⟩
            have HB123 := Lib.hid (HB12'.out.off (S := fun _ => False) (Off.of_below g.h) id)
            have TV3 := Lib.hid (TV1.out.up g.h)
            go_wp2_with fail
            refine (HPU.out _ g.h).mono ?_
            rintro e V9 hp
            obtain ⟨O9, he, hti⟩ := hp.is
            have hpf := HST4.out
            generalize pairF K (s1, p) (ra, rb) x key L = y at *
            unfold addrV at he
            subst he
            have HPF9 := Lib.hid hpf
            have HTI9 := Lib.hid hti
            have HBX := Lib.hid (hti.box HO12.out HB123.out)
            have HBO9 := Lib.hid (hti.out HO12.out HB123.out.lt)
            have u0 := HBX.out.1
            have u1 := HBX.out.2.1
            have u2 := HBX.out.2.2 0
            have u3 := HBX.out.2.2 1
            clear hp hti hpf
            go_wp2
            have hfin := (TV3.out.trans HTI9.out).ret HBX.out HBO9.out (by omega)
            rw [HPF9.out]
            refine bodyPost_ret (results_addr rfl _ _ _ _ _ rfl hfin.1 hfin.2.1) rfl ?_
            exact hfin.2.2
          have hb8 : ((f : Int) != (x.prefix_ : Int)) = false := by simp; omega
          have hst := HST2.out
          rw [if_neg (fun e => HX6.out e.1), if_neg (fun e => e.elim HX6.out (by rw [← HLV.out, HF.out]; exact fun e => e hfp))] at hst
          have HST4 := Lib.hid hst
          clear hst hfp HST2
          refine wp_region_up (by kernel_rfl) (by kernel_rfl) ?_
          repeat (go_big_quiet_step (first | (go_at_call 38; exact HFR.out _)))
          refine wpQuiet_nil ?_
          rintro _ ⟨g, rfl⟩
          go_upto_region 14 with (fail)
          refine wp_forget (fun W => Below V.heap.size V W) g.h ?_
          intro V1 hb1
          have TV3 := Lib.hid (TV1.out.up hb1)
          have HB123 := Lib.hid (HB12'.out.off (S := fun _ => False) (Off.of_below hb1) id)
          have HB73 := Lib.hid (HB7'.out.off (S := fun _ => False) (Off.of_below hb1) id)
          have HN3 := Lib.hid (HN.out.up hb1)
          have HV3 := Lib.hid (HV1.out.up hb1)
          clear q0 q1 q2 q3 c0 c1
          have q0 := HN3.out.level
          rw [← HLV.out] at q0
          have q4 := HN3.out.has hd16
          have q5 := HN3.out.vals hd16
          obtain ⟨q6, q7⟩ := HN3.out.kid hd16
          have c0 := HB73.out.1
          have c1 := HB73.out.2.1
          simp only at c0 c1
          have s13 := hb1.size
          clear hb1 HB7' HB12' HN HV1 HFR HD5 HDI
          by_cases h5 : lv = 5
          · have hb5 : ((lv : Int) == 5) = true := by simp; omega
            have hst := HST4.out
            rw [if_pos (by rw [← HLV.out]; exact h5), show digN key 5 = d by rw [← HD.out, h5]] at hst
            obtain ⟨Ad, nd, cd, ed, _, sd⟩ := HN3.out.vs d hd16
            rw [ed] at q5
            have HED := Lib.hid ed
            have HEQ : Hid (Calls Try.prog 49 #[.slice Ad nd cd, .slice Av nv cv] V1 fun e w' => e = .returned (.bool (decide (x.vals d = L))) ∧ V1 = w') := by
              obtain ⟨A2, n2, c2', e2, _, s2⟩ := HV3.out
              cases e2
              exact Lib.hid ((equal_any V1 Ad Av nd cd nv cv _ _ sd s2).mono fun e w' h => ⟨h.1, h.2.symm⟩)
            clear h5 ed sd
            by_cases hsame : x.has d = true ∧ x.vals d = L
            · rw [if_pos hsame] at hst
              have HST5 := Lib.hid hst
              have HE2 := HEQ.out
              rw [decide_eq_true hsame.2] at HE2
              have HE3 := Lib.hid HE2
              rw [hsame.1] at q4
              clear hst HST4 HEQ HE2 hsame
              go_upto_region 16 with (go_at_call 49; refine HE3.out.mono ?_; rintro e w' ⟨rfl, rfl⟩)
              have u0 := HB123.out.1
              have u1 := HB123.out.2.1
              have u2 := HB123.out.2.2 0
              have u3 := HB123.out.2.2 1
              go_wp2
              have hfin := TrIs.ret (y := ((s1, p), (ra, rb), 0)) TV3.out HB123.out HO12.out (by omega)
              rw [HST5.out]
              refine bodyPost_ret (results_addr rfl _ _ _ _ _ rfl hfin.1 hfin.2.1) rfl ?_
              exact hfin.2.2
            · rw [if_neg hsame] at hst
              have HST5 := Lib.hid hst
              have HSM := Lib.hid hsame
              clear hst HST4
              have f1 := HN3.out.free (50 + d)
              have f2 := HN3.out.free (34 + d)
              have hnot : x.has d = true → x.vals d ≠ L := fun e1 e2 => hsame ⟨e1, e2⟩
              have a1 : 50 + d ≠ 34 + d := by omega
              have a2 := a1.symm
              clear hsame
              cases hh : x.has d
              all_goals rw [hh] at q4
              case' true => 
                have HE2 := HEQ.out
                rw [decide_eq_false (hnot hh)] at HE2
                have HE3 := Lib.hid HE2
                clear HE2
                clear hh hnot HEQ
                go_upto_region 17 with (go_at_call 49; refine HE3.out.mono ?_; rintro e w' ⟨rfl, rfl⟩)
              case' false =>
                clear hh hnot HEQ
                go_upto_region 17 with (fail)
              all_goals
                go_region
                go_upto_region 18 with (fail)
                refine wp_forget (fun W => Off (· = X) V1 W ∧ NdAt W X { x with has := upd x.has d true, vals := upd x.vals d L } (upd vv d (.slice Av nv cv)) (.slice Al nl cl)) ⟨?_, ?_⟩ ?_
                · exact (((Off.refl (· = X) V1).setCell (p := ⟨X, 50 + d, none⟩) rfl _).setCell (p := ⟨X, 34 + d, none⟩) rfl _).drew
                · have hvx : ValsP (fun b => ¬ b = X) vv (.slice Al nl cl) := ⟨fun j hj b o n c e h0 => (HVI.out.1 j hj b o n c e h0).2, fun b o n c e h0 => (HVI.out.2 b o n c e h0).2⟩
                  have hvx2 : VIn (fun b => ¬ b = X) (.slice Av nv cv) := fun b o n c e h0 => by have := HV.out.inl b o n c e h0; omega
                  exact ((HN3.out.setHasP (Vb := fun b => ¬ b = X) hvx (fun e => e rfl) hd16 true).setValsP (Vb := fun b => ¬ b = X) hvx (fun e => e rfl) hd16 (HV3.out.offP ((Off.refl (· = X) V1).setCell (p := ⟨X, 50 + d, none⟩) rfl _) hvx2) hvx2).up (Below.refl _ _).drew
                rintro V2 ⟨ho2, hn2⟩
                have TV2 := Lib.hid (TV3.out.step ho2 (fun k e => by cases e; exact ⟨HXO.out, .inl (by omega)⟩))
                have HB122 := Lib.hid (HB123.out.off ho2 (by omega))
                have HPU := Lib.hid (tput_any TV2.out.tr (hK.mono _ _ _ hr1 (by omega)) hn2 (HK.out.setHV _ hL))
                clear ho2 hn2 q0 q4 q5 q6 q7 c0 c1 f1 f2 a1 a2
                go_wp2_with fail
                refine HPU.out.mono ?_
                rintro e V9 hp
                obtain ⟨O9, he, hti⟩ := hp.is
                have hpf := HST5.out
                generalize tputF K (s1, p) { x with has := upd x.has d true, vals := upd x.vals d L } = y at *
                unfold addrV at he
                subst he
                have HPF9 := Lib.hid hpf
                have HTI9 := Lib.hid hti
                have HBX := Lib.hid (hti.box HO12.out HB122.out)
                have HBO9 := Lib.hid (hti.out HO12.out HB122.out.lt)
                have u0 := HBX.out.1
                have u1 := HBX.out.2.1
                have u2 := HBX.out.2.2 0
                have u3 := HBX.out.2.2 1
                clear hp hti hpf
                go_wp2
                have hfin := (TV2.out.trans HTI9.out).ret HBX.out HBO9.out (by omega)
                rw [HPF9.out]
                refine bodyPost_ret (results_addr rfl _ _ _ _ _ rfl hfin.1 hfin.2.1) rfl ?_
                exact hfin.2.2
          · have hb5 : ((lv : Int) == 5) = false := by simp; omega
            have hl4 : lv ≤ 4 := by omega
            obtain ⟨kid, hkid⟩ : ∃ kid : Int × Int, (if x.has d = true then x.kids d else (0, 0)) = kid := ⟨_, rfl⟩
            have hst := HST4.out
            rw [if_neg (by rw [← HLV.out]; exact h5), show digN key x.level = d by rw [← HLV.out]; exact HD.out, hkid] at hst
            obtain ⟨y, hy⟩ : ∃ y, setF K n (s1, p) kid (x.level + 1) (frontN key (x.level + 1)) key L = y := ⟨_, rfl⟩
            rw [hy] at hst
            rw [← HLV.out] at hy
            have hgd := setF_good hK hk hL n (lv + 1) s1 p kid (frontN key (lv + 1)) 1 (by omega) (by omega) (hK.mono _ _ _ hr1 (by omega))
            rw [hy] at hgd
            obtain ⟨st2, made, e2⟩ := y
            simp only at hst
            have HGD := Lib.hid hgd
            have HST5 := Lib.hid hst
            have HYS := Lib.hid hy
            clear hst HST4 h5 hy hgd
            have hal : Below V1.heap.size V1 (V1.alloc (.cells #[.int .i64 0, .int .i64 0] 30)) := (Below.refl _ _).alloc (Nat.le_refl _) _
            have hbk : BoxA (V1.alloc (.cells #[.int .i64 kid.1, .int .i64 kid.2] 30)) V1.heap.size kid := BoxA.new _ _ _
            have hal2 : Below V1.heap.size V1 (V1.alloc (.cells #[.int .i64 kid.1, .int .i64 kid.2] 30)) := (Below.refl _ _).alloc (Nat.le_refl _) _
            have HBK : Hid (∀ W, W = V1.alloc (.cells #[.int .i64 kid.1, .int .i64 kid.2] 30) → Below V1.heap.size V1 W ∧ BoxA W V1.heap.size kid) := Lib.hid (fun W e => e ▸ ⟨hal2, hbk⟩)
            have HKD := Lib.hid hkid
            have lX1 := HN3.out.lt
            clear hal hbk hal2
            clear hkid
            go_upto_if 150 with (fail)
            go_cut [] from 150 to 156 (fun wc => Below V1.heap.size V1 wc ∧ BoxA wc V1.heap.size kid)
            case first =>
              have hkd := HKD.out
              cases hh : x.has d
              · rw [hh] at hkd
                simp only [if_false, Bool.false_eq_true] at hkd
                have HKI := Lib.hid hkd
                clear hkd hh q4
                go_wp2_with fail
                go_meet
                exact HBK.out _ (by rw [← HKI.out])
              · rw [hh] at hkd
                simp only [if_true] at hkd
                rw [hkd] at q6 q7
                clear hkd hh q4
                go_wp2_with fail
                go_meet
                exact HBK.out _ rfl
            case rest =>
            obtain ⟨hb2, hb17⟩ := hcut
            obtain ⟨V2, rfl⟩ : ∃ V2, V2 = wc := ⟨_, rfl⟩
            have HN2 := Lib.hid (HN3.out.up hb2)
            have hset : ∀ W, Below V2.heap.size V2 W → Calls Try.prog 36 #[.pointer (some ⟨T, 0, none⟩), .agg #[.int .i64 kid.1, .int .i64 kid.2], .int .i64 ((lv : Int) + 1), .int .i64 (frontN key (lv + 1) : Nat), .int .i64 (key : Nat), .slice Av nv cv] W (SetUp M V2 W T O (st2, made, e2)) := fun W hb =>
              SetUp.of hb <| HYS.out ▸ HIH.out W s1 p O kid (lv + 1) (frontN key (lv + 1)) (by omega) (by omega) (Nat.lt_of_le_of_lt (front_le _ _) (by omega)) ((TV3.out.up hb2).up hb).tr (hK.mono _ _ _ hr1 (by omega)) ((HV3.out.up hb2).up hb) HVO.out
            have HSET := Lib.hid hset
            have HFR2 : Hid (∀ W : World, Calls Try.prog 38 #[.int .i64 (key : Nat), .int .i64 ((lv : Int) + 1)] W fun e w' => e = .returned (.int .i64 (frontN key (lv + 1) : Nat)) ∧ W = w') := Lib.hid (fun W => (front_any W (l := lv + 1) (by omega) (by omega)).mono fun e w' h => ⟨h.1, h.2.symm⟩)
            have lX2 := HN2.out.lt
            have n0 := HN2.out.level
            rw [← HLV.out] at n0
            have n1 := hb17.1
            have n2 := hb17.2.1
            have HB17 := Lib.hid hb17
            have HB2 := Lib.hid hb2
            have l17 := hb17.lt
            have HO17 : Hid (Out O T V1.heap.size) := Lib.hid (TV3.out.tr.outOf (Nat.le_refl _))
            have HO18 : Hid (Out O T V2.heap.size) := Lib.hid (TV3.out.tr.outOf HB2.out.size)
            have hw1 : IntKind.i64.wrap ((lv : Int) + 1) = (lv : Int) + 1 := IntWalk.i64_in _ (by omega)
            have y1 : X ≠ V2.heap.size := by omega
            have y2 := y1.symm
            have y3 : V1.heap.size ≠ V2.heap.size := by omega
            have y4 := y3.symm
            clear hset hb17 hb2 q0 q4 q5 q6 q7 c0 c1
            go_upto_region 22 with (fail)
            go_cut [15, 18] from 157 to 176 (fun s15 s18 wc => ∃ g18 O1, s18 = .pointer (some ⟨g18, 0, none⟩) ∧ s15 = .int .i64 e2 ∧ SetMid M w wc T O O1 st2 (ra, rb) X x vv (.slice Al nl cl) V1.heap.size kid g18 made)
            case first =>
              go_region_held3 (fun W => W.cell? ⟨X, 0, none⟩ = some (.int .i64 lv) ∧ W.cell? ⟨V1.heap.size, 0, none⟩ = some (.int .i64 kid.1) ∧ W.cell? ⟨V1.heap.size, 1, none⟩ = some (.int .i64 kid.2))
                (first | exact ⟨n0, n1, n2⟩ | go_keep)
                (first
                  | (go_at_call 38; with_reducible refine (HFR2.out _).mono ?_; rintro e w5 ⟨rfl, rfl⟩)
                  | (go_at_call 36; refine (HSET.out _ (by first | exact (Below.refl _ _).drew | exact ((Below.refl _ _).alloc (Nat.le_refl _) _).drew)).mono ?_; rintro e V3 ⟨O1, rfl, hti, htc⟩; have n0 := (hti.off.cell (p := ⟨X, 0, none⟩) lX2 HXO.out.not).trans n0; have n1 := (hti.off.cell (p := ⟨V1.heap.size, 0, none⟩) l17 (HO17.out.not)).trans n1; have n2 := (hti.off.cell (p := ⟨V1.heap.size, 1, none⟩) l17 (HO17.out.not)).trans n2; (first | (have kb := htc.box HO18.out (show BoxA (V2.alloc (.cells #[.int .i64 0, .int .i64 0] 30)).drew V2.heap.size (0, 0) from (BoxA.new V2 _ (0, 0)).off (S := fun _ => False) (Off.refl _ _).drew id); have kb0 := kb.1; have kb1 := kb.2.1; have kb2 := kb.2.2 0; have kb3 := kb.2.2 1; have HKB := Lib.hid kb; have HO18' := Lib.hid (htc.out HO18.out (show V2.heap.size < (V2.alloc (.cells #[.int .i64 0, .int .i64 0] 30)).drew.heap.size by simp)); clear kb) | skip); have HTI := Lib.hid hti; have HTC := Lib.hid htc; clear hti htc))
              all_goals
                go_wp2_with fail
                go_meet
                first
                  | exact ⟨_, _, rfl, rfl, SetMid.of (TV3.out.up HB2.out) (HB73.out.off (S := fun _ => False) (Off.of_below HB2.out) id) (HB123.out.off (S := fun _ => False) (Off.of_below HB2.out) id) HB17.out HN2.out HVP.out HXO.out HO7.out HO12.out HO17.out sX (by omega) HTI.out (HKB.out.set made).2 HO18'.out (Nat.le_refl _) (HKB.out.set made).1⟩
                  | exact ⟨_, _, rfl, rfl, SetMid.of (TV3.out.up HB2.out) (HB73.out.off (S := fun _ => False) (Off.of_below HB2.out) id) (HB123.out.off (S := fun _ => False) (Off.of_below HB2.out) id) HB17.out HN2.out HVP.out HXO.out HO7.out HO12.out HO17.out sX (by omega) HTI.out (Off.of_below ((Below.refl _ _).alloc (Nat.le_refl _) _)) (HTI.out.tr.outOf (Nat.le_refl _)) HTI.out.off.size (BoxA.new _ _ _)⟩
            case rest =>
            obtain ⟨g18, O1, rfl, rfl, hm⟩ := hcut
            obtain ⟨V4, rfl⟩ : ∃ V4, V4 = wc := ⟨_, rfl⟩
            have HM := Lib.hid hm
            have q4 := hm.nd.has hd16
            have k0 := hm.b17.1
            have k1 := hm.b17.2.1
            have m0 := hm.b18.1
            have m1 := hm.b18.2.1
            have r0 := hm.b7.1
            have r1 := hm.b7.2.1
            simp only at r0 r1
            obtain ⟨y5, y6, y7, y8⟩ := hm.ne
            have y9 := y5.symm
            have lX4 := hm.nd.lt
            have l12 := hm.b12.lt
            clear hm
            by_cases he : e2 = 0
            case neg =>
              have hb9 : (e2 != 0) = true := by simp [he]
              have hst := HST5.out
              rw [if_pos (.inl he)] at hst
              have HST6 := Lib.hid hst
              clear hst HST5 he HGD HYS q4
              have u0 := HM.out.b12.1
              have u1 := HM.out.b12.2.1
              have u2 := HM.out.b12.2.2 0
              have u3 := HM.out.b12.2.2 1
              go_wp2
              have hfin := TrIs.ret (y := (st2, (ra, rb), e2)) HM.out.tr HM.out.b12 HM.out.o12 (by omega)
              rw [HST6.out]
              refine bodyPost_ret (results_addr rfl _ _ _ _ _ rfl hfin.1 hfin.2.1) rfl ?_
              exact hfin.2.2
            subst he
            have hst := HST5.out
            by_cases hmk : x.has d = true ∧ made = x.kids d
            · rw [if_pos (.inr hmk)] at hst
              have HST6 := Lib.hid hst
              have e3 : ∀ W : World, (Op.equalIn 10000 30 (.agg #[.int .i64 made.1, .int .i64 made.2]) (.agg #[.int .i64 kid.1, .int .i64 kid.2])).run Try.prog W = .ok true W := fun W => by
                rw [eq_addr, decide_eq_true]
                rw [hmk.2, ← HKD.out, if_pos hmk.1]
              rw [hmk.1] at q4
              clear hst HST5 hmk HGD HYS
              have u0 := HM.out.b12.1
              have u1 := HM.out.b12.2.1
              have u2 := HM.out.b12.2.2 0
              have u3 := HM.out.b12.2.2 1
              go_wp2
              have hfin := TrIs.ret (y := (st2, (ra, rb), 0)) HM.out.tr HM.out.b12 HM.out.o12 (by omega)
              rw [HST6.out]
              refine bodyPost_ret (results_addr rfl _ _ _ _ _ rfl hfin.1 hfin.2.1) rfl ?_
              exact hfin.2.2
            rw [if_neg (fun e => e.elim (fun e => e rfl) hmk)] at hst
            have HST6 := Lib.hid hst
            have HBM : Hid (Bd made) := Lib.hid (HGD.out.2 rfl)
            have HRM : Hid (K.Rdy st2.1 1) := Lib.hid HGD.out.1
            have e3 : x.has d = true → ∀ W : World, (Op.equalIn 10000 30 (.agg #[.int .i64 made.1, .int .i64 made.2]) (.agg #[.int .i64 kid.1, .int .i64 kid.2])).run Try.prog W = .ok false W := fun hh W => by
              rw [eq_addr, decide_eq_false]
              rw [← HKD.out, if_pos hh]
              exact fun e => hmk ⟨hh, e⟩
            have HE3 := Lib.hid e3
            clear hst HST5 hmk HGD HYS e3
            go_upto_region 23 with (fail)
            go_cut [191] from 177 to 191 (fun s191 wc => s191 = .bool false ∧ wc = V4)
            case first =>
              cases hh : x.has d
              · rw [hh] at q4
                clear hh HE3
                go_wp2_with fail
                go_meet
                exact ⟨rfl, rfl⟩
              · rw [hh] at q4
                have e3 := HE3.out hh
                clear hh HE3
                go_wp2_with fail
                go_meet
                exact ⟨rfl, rfl⟩
            case rest =>
            obtain ⟨rfl, hw⟩ := hcut
            obtain rfl := hw.symm
            obtain ⟨q6, q7⟩ := HM.out.nd.kid hd16
            have f1 := HM.out.nd.free (50 + d)
            have f2 := HM.out.nd.free (2 + d * 2)
            have f3 := HM.out.nd.free (2 + d * 2 + 1)
            have a1 : 50 + d ≠ 2 + d * 2 := by omega
            have a2 : 50 + d ≠ 2 + d * 2 + 1 := by omega
            have a3 := a1.symm
            have a4 := a2.symm
            go_upto_region 25 with (fail)
            go_region
            go_upto_region 26 with (fail)
            refine wp_forget (fun W => Off (· = X) V4 W ∧ NdAt W X { x with has := upd x.has d true, kids := upd x.kids d made } vv (.slice Al nl cl)) ⟨?_, ?_⟩ ?_
            · exact ((((Off.refl (· = X) V4).setCell (p := ⟨X, 50 + d, none⟩) rfl _).setCell (p := ⟨X, 2 + d * 2, none⟩) rfl _).setCell (p := ⟨X, 2 + d * 2 + 1, none⟩) rfl _).drew
            · have hvx : ValsP (fun b => ¬ b = X) vv (.slice Al nl cl) := ⟨fun j hj b o n c e h0 => (HVI.out.1 j hj b o n c e h0).2, fun b o n c e h0 => (HVI.out.2 b o n c e h0).2⟩
              exact ((HM.out.nd.setHasP (Vb := fun b => ¬ b = X) hvx (fun e => e rfl) hd16 true).setKidP (Vb := fun b => ¬ b = X) hvx (fun e => e rfl) hd16 made).up (Below.refl _ _).drew
            rintro V5 ⟨ho5, hn5⟩
            have TV5 := Lib.hid (HM.out.tr.step ho5 (fun k e => by cases e; exact ⟨HM.out.oX, .inl (by omega)⟩))
            have HB125 := Lib.hid (HM.out.b12.off ho5 (by omega))
            have HPU := Lib.hid (tput_any TV5.out.tr HRM.out hn5 (HK.out.setHKd _ HBM.out))
            have HO125 := Lib.hid HM.out.o12
            clear ho5 hn5 q4 q6 q7 k0 k1 m0 m1 r0 r1 f1 f2 f3 a1 a2 a3 a4
            go_wp2_with fail
            refine HPU.out.mono ?_
            rintro e V9 hp
            obtain ⟨O9, he, hti⟩ := hp.is
            have hpf := HST6.out
            generalize tputF K (st2.1, st2.2) { x with has := upd x.has d true, kids := upd x.kids d made } = y at *
            unfold addrV at he
            subst he
            have HPF9 := Lib.hid hpf
            have HTI9 := Lib.hid hti
            have HBX := Lib.hid (hti.box HO125.out HB125.out)
            have HBO9 := Lib.hid (hti.out HO125.out HB125.out.lt)
            have u0 := HBX.out.1
            have u1 := HBX.out.2.1
            have u2 := HBX.out.2.2 0
            have u3 := HBX.out.2.2 1
            clear hp hti hpf
            go_wp2
            have hfin := (TV5.out.trans HTI9.out).ret HBX.out HBO9.out (by omega)
            rw [HPF9.out]
            refine bodyPost_ret (results_addr rfl _ _ _ _ _ rfl hfin.1 hfin.2.1) rfl ?_
            exact hfin.2.2
end Go.Proofs.Ytgkdggidgaifhaa
