/- symMerge; stableCmpFunc. -/
import Derived.Test.YteckbhpjhohanaaSC
namespace Go.Proofs.Yteckbhpjhohanaa
open Go.RowKit
set_option linter.unusedVariables false
set_option linter.unusedSimpArgs false

theorem rot_id (D : Nat → Int) (a m b : Nat) (h : a = m ∨ b = m) (h1 : a ≤ m) (h2 : m ≤ b) : rot D a m b = D := by
  funext i
  unfold rot
  rcases h with rfl | rfl
  · split
    · congr 1 <;> omega
    · rw [if_neg (by omega)]
  · rw [if_neg (by omega)]
    split
    · congr 1 <;> omega
    · rfl
theorem Srt.same {v : Int → Int} {a b : Nat} {D D' : Nat → Int} (h : Srt v a b D) (he : ∀ i, a ≤ i → i < b → D' i = D i) : Srt v a b D' := fun i j h1 h2 h3 => by rw [he i h1 (by omega), he j (by omega) h3]; exact h i j h1 h2 h3
theorem Crs.same {a m b : Nat} {D D' : Nat → Int} (h : Crs a m b D) (he : ∀ i, a ≤ i → i < b → D' i = D i) : Crs a m b D' := fun i j h1 h2 h3 h4 => by rw [he i h1 (by omega), he j (by omega) h4]; exact h i j h1 h2 h3 h4

/-- Both halves are merged in their turn. -/
theorem merge_tail {e : Env} {a m b s : Nat} {D D1 D2 D3 : Nat → Int} (ham : a < m) (hmb : m < b) (hD1 : D1 = rot D s m ((a + b) / 2 + m - s)) (g1 : a ≤ s) (g2 : s ≤ m) (g3 : (a + b) / 2 + m - s ≤ b) (g4 : m ≤ (a + b) / 2 + m - s)
    (hsp : Pre e a m b D → Split e.val a m b s D) (p2 : Pm a ((a + b) / 2) D1 D2) (s2 : Pre e a s ((a + b) / 2) D1 → Srt e.val a ((a + b) / 2) D2)
    (p3 : Pm ((a + b) / 2) b D2 D3) (s3 : Pre e ((a + b) / 2) ((a + b) / 2 + m - s) b D2 → Srt e.val ((a + b) / 2) b D3) : Pm a b D D3 ∧ (Pre e a m b D → Srt e.val a b D3) := by
  have hm2 : a ≤ (a + b) / 2 ∧ (a + b) / 2 < b := by omega
  refine ⟨?_, fun hp => ?_⟩
  · have q1 : Pm a b D D1 := by rw [hD1]; exact Pm.rot D g1 g2 g4 g3
    exact (q1.trans (p2.mono (Nat.le_refl _) (by omega))).trans (p3.mono (by omega) (Nat.le_refl _))
  · obtain ⟨⟨l1, l2, l3⟩, ⟨r1, r2, r3⟩, x⟩ := rot_left (hsp hp) hp.2.1 hp.2.2.1 hp.2.2.2 ham hmb
    rw [← hD1] at l1 l2 l3 r1 r2 r3 x
    have e2 : ∀ i, (a + b) / 2 ≤ i → i < b → D2 i = D1 i := fun i k1 k2 => p2.out (by omega)
    have e3 : ∀ i, a ≤ i → i < (a + b) / 2 → D3 i = D2 i := fun i k1 k2 => p3.out (by omega)
    have t2 := s2 ⟨hp.1, l1, l2, l3⟩
    have t3 := s3 ⟨hp.1, r1.same fun i k1 k2 => e2 i k1 (by omega), r2.same fun i k1 k2 => e2 i (by omega) k2, r3.same e2⟩
    refine srt_join (D := D) (t2.same e3) t3 fun i j k1 k2 k3 k4 => ?_
    rw [e3 i k1 k2]
    obtain ⟨i0, i1, i2, i3⟩ := p2.inn k1 k2
    obtain ⟨j0, j1, j2, j3⟩ := p3.inn k3 k4
    rw [i3, j3, e2 j0 j1 j2]
    exact x i0 j0 i1 i2 j1 j2

/-- The search for where the halves part: from s0 on, below r0. -/
def BsM (w : World) (e : Env) (B a m b s0 r0 : Nat) (D : Nat → Int) (u v : Value) (wr : World) : Prop :=
  ∃ s r : Nat, s0 ≤ s ∧ s ≤ r ∧ r ≤ r0 ∧ u = .int .i64 s ∧ v = .int .i64 r ∧ (Pre e a m b D → (∀ c, s0 ≤ c → c < s → Lt e.val (D c) (D ((a + b) / 2 + m - 1 - c))) ∧ (∀ c, r ≤ c → c < r0 → Lt e.val (D ((a + b) / 2 + m - 1 - c)) (D c))) ∧ DS wr e B D ∧ Off (SBl e B) w wr

theorem bsM_split {e : Env} {a m b s0 r0 s : Nat} {D : Nat → Int} (ham : a < m) (hmb : m < b) (h0 : (m ≤ (a + b) / 2 ∧ s0 = a ∧ r0 = m) ∨ ((a + b) / 2 < m ∧ s0 = (a + b) / 2 + m - b ∧ r0 = (a + b) / 2)) (h1 : s0 ≤ s) (h2 : s ≤ r0)
    (hl : ∀ c, s0 ≤ c → c < s → Lt e.val (D c) (D ((a + b) / 2 + m - 1 - c))) (hr : ∀ c, s ≤ c → c < r0 → Lt e.val (D ((a + b) / 2 + m - 1 - c)) (D c)) : Split e.val a m b s D :=
  ⟨by omega, by omega, by omega, by omega, fun c g1 g2 g3 => hl c (by omega) g2, fun c g1 g2 g3 => hr c g1 (by omega)⟩

theorem bsM_lo {e : Env} {a m b s0 r0 c : Nat} {D : Nat → Int} (hp : Pre e a m b D) (ham : a < m) (hmb : m < b) (h0 : (m ≤ (a + b) / 2 ∧ s0 = a ∧ r0 = m) ∨ ((a + b) / 2 < m ∧ s0 = (a + b) / 2 + m - b ∧ r0 = (a + b) / 2)) (h1 : s0 ≤ c) (h2 : c < r0)
    (hl : ¬ e.val (D ((a + b) / 2 + m - 1 - c)) < e.val (D c)) : ∀ d, s0 ≤ d → d ≤ c → Lt e.val (D d) (D ((a + b) / 2 + m - 1 - d)) := by
  have h3 : Lt e.val (D c) (D ((a + b) / 2 + m - 1 - c)) := lt_of_not (hp.2.2.2 c _ (by omega) (by omega) (by omega) (by omega)) hl
  intro d g1 g2
  by_cases hd : d = c
  · rw [hd]; exact h3
  · exact ((hp.2.1 d c (by omega) (by omega) (by omega)).trans h3).trans (hp.2.2.1 _ _ (by omega) (by omega) (by omega))
theorem bsM_hi {e : Env} {a m b s0 r0 c : Nat} {D : Nat → Int} (hp : Pre e a m b D) (ham : a < m) (hmb : m < b) (h0 : (m ≤ (a + b) / 2 ∧ s0 = a ∧ r0 = m) ∨ ((a + b) / 2 < m ∧ s0 = (a + b) / 2 + m - b ∧ r0 = (a + b) / 2)) (h1 : s0 ≤ c) (h2 : c < r0)
    (hl : e.val (D ((a + b) / 2 + m - 1 - c)) < e.val (D c)) : ∀ d, c ≤ d → d < r0 → Lt e.val (D ((a + b) / 2 + m - 1 - d)) (D d) := by
  have h3 : Lt e.val (D ((a + b) / 2 + m - 1 - c)) (D c) := lt_of_less hl
  intro d g1 g2
  by_cases hd : d = c
  · rw [hd]; exact h3
  · exact ((hp.2.2.1 ((a + b) / 2 + m - 1 - d) ((a + b) / 2 + m - 1 - c) (by omega) (by omega) (by omega)).trans h3).trans (hp.2.1 c d (by omega) (by omega) (by omega))

theorem sym_close {e : Env} {B a m b s md en : Nat} {D D2 D3 : Nat → Int} {w w' : World} (ham : a < m) (hmb : m < b) (hmd : md = (a + b) / 2) (hen : en = (a + b) / 2 + m - s) (g1 : a ≤ s) (g2 : s ≤ m) (g3 : en ≤ b) (g4 : m ≤ en)
    (hsp : Pre e a m b D → Split e.val a m b s D) (p2 : Pm a md (rot D s m en) D2) (s2 : Pre e a s md (rot D s m en) → Srt e.val a md D2) (p3 : Pm md b D2 D3) (s3 : Pre e md en b D2 → Srt e.val md b D3) (hd : DS w' e B D3) (ho : Off (SBl e B) w w') :
    SymPost e B a m b D w (.returned (.tuple #[])) w' := by
  subst hmd
  subst hen
  obtain ⟨x, y⟩ := merge_tail ham hmb rfl g1 g2 g3 g4 hsp p2 s2 p3 s3
  exact ⟨D3, rfl, x, fun q1 q2 q3 q4 => y ⟨q1, q2, q3, q4⟩, hd, ho⟩
/-- Where one part is empty there is nothing to merge. -/
theorem pre_none {e : Env} {a s m : Nat} {D : Nat → Int} (h1 : a ≤ s) (h2 : s ≤ m) (hc : s ≤ a ∨ m ≤ s) (hp : Pre e a s m D) : Srt e.val a m D := by
  rcases hc with hc | hc
  · have : a = s := by omega
    subst this
    exact hp.2.2.1
  · have : s = m := by omega
    subst this
    exact hp.2.1

set_option maxRecDepth 100000 in
set_option maxHeartbeats 16000000 in
theorem sym_any {K : Nat} (d : Nat) : ∀ (w : World) (e : Env) (B a m b : Nat) (D : Nat → Int), b - a ≤ d → DS w e B D → a < m → m < b → b ≤ e.n →
    Calls Try.prog 16 #[.slice (some ⟨B, 0, none⟩) e.n K, .int .i64 a, .int .i64 m, .int .i64 b, .func (.func 10) #[] #[.pointer (some ⟨e.cF, 0, none⟩)]] w (SymPost e B a m b D w) := by
  induction d with
  | zero => intro w e B a m b D hd h ham hmb hbn; omega
  | succ d ih =>
    intro w e B a m b D hd h ham hmb hbn
    by_cases c1 : m = a + 1
    · exact sym_left w e B a m b D h hmb hbn (by omega) (by omega)
    by_cases c2 : b = m + 1
    · exact sym_right w e B a m b D h (by omega) hbn (by omega) (by omega)
    have hm := h.env.most
    have hn : 0 < e.n := by omega
    have cfC := cfC
    have IH := Lib.hid ih
    have d1 : ((m : Int) - (a : Int) == 1) = false := by simp; omega
    have d2 : ((b : Int) - (m : Int) == 1) = false := by simp; omega
    obtain ⟨md, hmd⟩ : ∃ md : Nat, md = (a + b) / 2 := ⟨_, rfl⟩
    have m1 : 2 * md ≤ a + b := by omega
    have m2 : a + b ≤ 2 * md + 1 := by omega
    have q1 : ((a : Int) + (b : Int)) / 2 = (md : Int) := by omega
    obtain ⟨p, hp⟩ : ∃ p : Nat, p = md + m - 1 := ⟨_, rfl⟩
    have q2 : (md : Int) + (m : Int) - 1 = (p : Int) := by omega
    have p1 : p + 1 ≤ md + m := by omega
    have p2 : md + m ≤ p + 1 := by omega
    have HMD := Lib.hid hmd
    have HPP := Lib.hid hp
    have hs : ∃ s0 r0 : Nat, ((m ≤ md ∧ s0 = a ∧ r0 = m) ∨ (md < m ∧ s0 = md + m - b ∧ r0 = md)) := by
      by_cases hc : m ≤ md
      · exact ⟨_, _, .inl ⟨hc, rfl, rfl⟩⟩
      · exact ⟨_, _, .inr ⟨by omega, rfl, rfl⟩⟩
    obtain ⟨s0, r0, hsr⟩ := hs
    have HSR := Lib.hid hsr
    have HD0 := Lib.hid h
    clear ih hmd hp c1 c2 h
    have u1 : a ≤ s0 := by omega
    have u2 : s0 ≤ r0 := by omega
    have u3 : r0 ≤ m := by omega
    have u4 : r0 ≤ md := by omega
    have u5 : md + m ≤ s0 + b := by omega
    have H0 : Hid (BsM w e B a m b s0 r0 D (.int .i64 s0) (.int .i64 r0) w) := ⟨s0, r0, Nat.le_refl _, u2, Nat.le_refl _, rfl, rfl, fun _ => ⟨fun c g1 g2 => by omega, fun c g1 g2 => by omega⟩, HD0.out, Off.refl _ _⟩
    clear HD0
    have H1 : ∀ x y : Nat, x = s0 → y = r0 → Hid (BsM w e B a m b s0 r0 D (.int .i64 x) (.int .i64 y) w) := by
      rintro x y rfl rfl
      exact H0
    clear H0
    rcases hsr with ⟨hc, e1, e2⟩ | ⟨hc, e1, e2⟩
    case' inl =>
      have H0 := H1 a m e1.symm e2.symm
      have d3 : decide (md < m) = false := by simp; omega
      clear H1 e1 e2
      go_enter Try.func16, Try.ntmps16
      go_wp2
    case' inr =>
      have q3 : (md : Int) + (m : Int) - (b : Int) = (s0 : Int) := by omega
      have H0 := H1 s0 md rfl e2.symm
      have d3 : decide (md < m) = true := by simp; omega
      clear H1 e1 e2
      go_enter Try.func16, Try.ntmps16
      go_wp2
      clear q3
    all_goals
      clear q1 q2
      go_loopw [20, 21] (fun u v wr => BsM w e B a m b s0 r0 D u v wr) (fun u v _ => (intOf v).toNat - (intOf u).toNat)
      case atStart => exact H0.out
      case round =>
        obtain ⟨s, r, i1, i2, i3, rfl, rfl, hi, hd, ho⟩ := hrel
        clear H0
        by_cases hlt : s < r
        · have HI := Lib.hid hi
          have HD := Lib.hid hd
          have HO := Lib.hid ho
          clear hi hd ho
          obtain ⟨c, hh⟩ : ∃ c : Nat, c = (s + r) / 2 := ⟨_, rfl⟩
          have q : ((s : Int) + (r : Int)) / 2 = (c : Int) := by omega
          have hi1 : s ≤ c := by omega
          have hi2 : c < r := by omega
          clear hh
          go_upto_region 35 with (fail)
          clear q
          have c0 := HD.out.dat c (by omega)
          have c1 := HD.out.dat (p - c) (by omega)
          obtain ⟨x, hx, hx1⟩ := HD.out.rng c (by omega)
          obtain ⟨y, hy, hy1⟩ := HD.out.rng (p - c) (by omega)
          rw [hx] at c0
          rw [hy] at c1
          have HC := Lib.hid (cmp_any wr.drew e y x (HD.out.env.up (Below.refl _ _).drew) hy1 hx1)
          have HXY : Hid (D c = x ∧ D ((a + b) / 2 + m - 1 - c) = y) := ⟨hx, by rw [← HMD.out, ← HPP.out]; exact hy⟩
          clear hx hy
          have k0 : (0 : Int) ≤ (c : Int) := by omega
          have k1 : (c : Int) < (e.n : Int) := by omega
          have k2 : (0 : Int) ≤ (p : Int) - (c : Int) := by omega
          have k3 : (p : Int) - (c : Int) < (e.n : Int) := by omega
          have k4 : ((p : Int) - (c : Int)).toNat = p - c := by omega
          have k5 : (c : Int) ≤ (p : Int) := by omega
          have k6 : IntKind.i64.wrap ((p : Int) - (c : Int)) = (p : Int) - (c : Int) := IntWalk.i64_in _ (by omega)
          go_region_held3 (fun w' => w'.cell? ⟨B, c, none⟩ = some (.int .i64 x) ∧ w'.cell? ⟨B, p - c, none⟩ = some (.int .i64 y))
            (first | exact ⟨K0, K1⟩ | go_keep)
            (first | (go_at_call 10; refine HC.out.mono ?_; rintro en w1 ⟨v, rfl, hv, he1, ho1⟩; have K0 := (ho1.cell (p := ⟨B, c, none⟩) (lt_of_cell c0) HD.out.ne.2).trans c0; have K1 := (ho1.cell (p := ⟨B, p - c, none⟩) (lt_of_cell c1) HD.out.ne.2).trans c1; have HV := Lib.hid hv; have HE1 := Lib.hid he1; have HO1 := Lib.hid ho1; clear hv he1 ho1))
          clear k4 k5 k6
          have HD1 : Hid (DS w1 e B D ∧ Off (SBl e B) w w1) := ⟨HD.out.drew.cmp HE1.out HO1.out hn, off_cmp HO.out.drew HO1.out⟩
          have HV2 : Hid (e.odd = false → (v < 0 ↔ e.val (D ((a + b) / 2 + m - 1 - c)) < e.val (D c))) := fun ho => by rw [HXY.out.1, HXY.out.2]; exact HV.out ho
          have HSR2 : Hid ((m ≤ (a + b) / 2 ∧ s0 = a ∧ r0 = m) ∨ ((a + b) / 2 < m ∧ s0 = (a + b) / 2 + m - b ∧ r0 = (a + b) / 2)) := by rw [← HMD.out]; exact HSR.out
          clear HV HE1 HO1 c0 c1 HC K0 K1 HD HO k0 k1 k2 k3
          by_cases hv : v < 0
          · have HX : Hid (BsM w e B a m b s0 r0 D (.int .i64 s) (.int .i64 c) w1) :=
              ⟨s, c, by omega, by omega, by omega, rfl, rfl, fun hp => ⟨(HI.out hp).1, fun d g1 g2 => bsM_hi hp ham hmb HSR2.out (by omega) (by omega) ((HV2.out hp.1).1 hv) d g1 g2⟩, HD1.out.1, HD1.out.2⟩
            clear HI HD1 HV2 HSR2
            go_wp2
            · exfalso
              have q : (!decide (v < 0)) = true := by assumption
              simp at q
              omega
            · go_roundw
              case rel => first | exact HX.out | ((repeat apply Exists.intro); exact ⟨HX.out, rfl⟩)
              case measure => simp [intOf]; omega
          · have HX : Hid (∀ u, u = .int .i64 (c + 1 : Nat) → BsM w e B a m b s0 r0 D u (.int .i64 r) w1) := by
              rintro u rfl
              exact ⟨c + 1, r, by omega, by omega, by omega, rfl, rfl, fun hp => ⟨fun d g1 g2 => bsM_lo hp ham hmb HSR2.out (by omega) (by omega) (fun g => hv ((HV2.out hp.1).2 g)) d g1 (by omega), (HI.out hp).2⟩, HD1.out.1, HD1.out.2⟩
            clear HI HD1 HV2 HSR2
            go_wp2
            · go_roundw
              case rel => first | exact HX.out _ (by go_num) | ((repeat apply Exists.intro); exact ⟨HX.out _ (by go_num), rfl⟩)
              case measure => simp [intOf]; omega
            · exfalso
              have q : (!decide (v < 0)) = false := by assumption
              simp at q
              omega
        · obtain rfl : s = r := by omega
          have HI : Hid (Pre e a m b D → Split e.val a m b s D) := fun hp => by
            refine bsM_split (s0 := s0) (r0 := r0) ham hmb ?_ i1 i3 (hi hp).1 (hi hp).2
            rw [← HMD.out]
            exact HSR.out
          clear hi hlt i2
          obtain ⟨en, hen⟩ : ∃ en : Nat, en = md + m - s := ⟨_, rfl⟩
          have q5 : (md : Int) + (m : Int) - (s : Int) = (en : Int) := by omega
          have t1 : en + s ≤ md + m := by omega
          have t2 : md + m ≤ en + s := by omega
          have HEN : Hid (en = (a + b) / 2 + m - s) := by show _ = _; rw [hen, HMD.out]
          clear hen
          have t3 : m ≤ en := by omega
          have t4 : en ≤ b := by omega
          have HPM0 : Hid (rot D s m en = rot D s m ((a + b) / 2 + m - s)) := by show _ = _; rw [HEN.out]
          have W : (s < m ∧ m < en) ∨ (m ≤ s ∧ m ≤ md) ∨ (s < m ∧ md ≤ s ∧ md < m) := by omega
          have HD := Lib.hid hd
          have HO := Lib.hid ho
          clear hd ho
          rcases W with ⟨c1a, c1b⟩ | ⟨c1a, c1b⟩ | ⟨c1a, c1b, c1c⟩
          · go_wp2_with fail
            refine (rotate_any (K := K) _ e B s m en D _ HD.out c1a c1b (by omega)).mono ?_
            rintro _ w1 ⟨rfl, hd1, ho1⟩
            have HD1 : Hid (DS w1 e B (rot D s m en) ∧ Off (SBl e B) w w1) := ⟨hd1, HO.out.trans ho1⟩
            clear hd1 ho1 HD HO
            by_cases c2 : a < s
            · have c2b : s < md := by omega
              go_wp2_with fail
              refine (IH.out _ e B a s md _ (by omega) HD1.out.1 c2 c2b (by omega)).mono ?_
              rintro _ w2 ⟨D2, rfl, p2, s2, hd2, ho2⟩
              have HD2 : Hid ((Pm a md (rot D s m en) D2 ∧ (Pre e a s md (rot D s m en) → Srt e.val a md D2)) ∧ DS w2 e B D2 ∧ Off (SBl e B) w w2) := ⟨⟨p2, fun hp => s2 hp.1 hp.2.1 hp.2.2.1 hp.2.2.2⟩, hd2, HD1.out.2.trans ho2⟩
              clear p2 s2 hd2 ho2 HD1
              by_cases c3 : en < b
              · first
                | (exfalso; omega)
                | (go_wp2_with fail
                   refine (IH.out _ e B md en b _ (by omega) HD2.out.2.1 (by omega) c3 hbn).mono ?_
                   rintro _ w3 ⟨D3, rfl, p3, s3, hd3, ho3⟩
                   have HX : Hid (SymPost e B a m b D w (.returned (.tuple #[])) w3) := sym_close ham hmb HMD.out HEN.out (by omega) (by omega) t4 t3 HI.out HD2.out.1.1 HD2.out.1.2 p3 (fun hp => s3 hp.1 hp.2.1 hp.2.2.1 hp.2.2.2) hd3 (HD2.out.2.2.trans ho3)
                   clear p3 s3 hd3 ho3 HD2
                   go_wp2
                   go_end0
                   exact HX.out)
              · first
                | (exfalso; omega)
                | (have HX : Hid (SymPost e B a m b D w (.returned (.tuple #[])) w2) := sym_close ham hmb HMD.out HEN.out (by omega) (by omega) t4 t3 HI.out HD2.out.1.1 HD2.out.1.2 (Pm.refl _ _ _) (pre_none (by omega) (by omega) (.inr (by omega))) HD2.out.2.1 HD2.out.2.2
                   clear HD2
                   go_wp2
                   go_end0
                   exact HX.out)
            · have HD2 : Hid ((Pm a md (rot D s m en) (rot D s m en) ∧ (Pre e a s md (rot D s m en) → Srt e.val a md (rot D s m en))) ∧ DS w1 e B (rot D s m en) ∧ Off (SBl e B) w w1) := ⟨⟨Pm.refl _ _ _, pre_none (by omega) (by omega) (.inl (by omega))⟩, HD1.out⟩
              clear HD1
              by_cases c3 : en < b
              · first
                | (exfalso; omega)
                | (go_wp2_with fail
                   refine (IH.out _ e B md en b _ (by omega) HD2.out.2.1 (by omega) c3 hbn).mono ?_
                   rintro _ w3 ⟨D3, rfl, p3, s3, hd3, ho3⟩
                   have HX : Hid (SymPost e B a m b D w (.returned (.tuple #[])) w3) := sym_close ham hmb HMD.out HEN.out (by omega) (by omega) t4 t3 HI.out HD2.out.1.1 HD2.out.1.2 p3 (fun hp => s3 hp.1 hp.2.1 hp.2.2.1 hp.2.2.2) hd3 (HD2.out.2.2.trans ho3)
                   clear p3 s3 hd3 ho3 HD2
                   go_wp2
                   go_end0
                   exact HX.out)
              · first
                | (exfalso; omega)
                | (have HX : Hid (SymPost e B a m b D w (.returned (.tuple #[])) w1) := sym_close ham hmb HMD.out HEN.out (by omega) (by omega) t4 t3 HI.out HD2.out.1.1 HD2.out.1.2 (Pm.refl _ _ _) (pre_none (by omega) (by omega) (.inr (by omega))) HD2.out.2.1 HD2.out.2.2
                   clear HD2
                   go_wp2
                   go_end0
                   exact HX.out)
          · first
            | (exfalso; omega)
            | (have HD1 : Hid (DS wr e B (rot D s m en) ∧ Off (SBl e B) w wr) := by
                 rw [rot_id D s m en (by omega) (by omega) t3]
                 exact ⟨HD.out, HO.out⟩
               clear HD HO
               have c2 : a < s := by omega
               by_cases c2b : s < md
               · first
                 | (exfalso; omega)
                 | (go_wp2_with fail
                    refine (IH.out _ e B a s md _ (by omega) HD1.out.1 c2 c2b (by omega)).mono ?_
                    rintro _ w2 ⟨D2, rfl, p2, s2, hd2, ho2⟩
                    have HD2 : Hid ((Pm a md (rot D s m en) D2 ∧ (Pre e a s md (rot D s m en) → Srt e.val a md D2)) ∧ DS w2 e B D2 ∧ Off (SBl e B) w w2) := ⟨⟨p2, fun hp => s2 hp.1 hp.2.1 hp.2.2.1 hp.2.2.2⟩, hd2, HD1.out.2.trans ho2⟩
                    clear p2 s2 hd2 ho2 HD1
                    have HX : Hid (SymPost e B a m b D w (.returned (.tuple #[])) w2) := sym_close ham hmb HMD.out HEN.out (by omega) (by omega) t4 t3 HI.out HD2.out.1.1 HD2.out.1.2 (Pm.refl _ _ _) (pre_none (by omega) (by omega) (.inl (by omega))) HD2.out.2.1 HD2.out.2.2
                    clear HD2
                    go_wp2
                    go_end0
                    exact HX.out)
               · first
                 | (exfalso; omega)
                 | (have HD2 : Hid ((Pm a md (rot D s m en) (rot D s m en) ∧ (Pre e a s md (rot D s m en) → Srt e.val a md (rot D s m en))) ∧ DS wr e B (rot D s m en) ∧ Off (SBl e B) w wr) := ⟨⟨Pm.refl _ _ _, pre_none (by omega) (by omega) (.inr (by omega))⟩, HD1.out⟩
                    clear HD1
                    have HX : Hid (SymPost e B a m b D w (.returned (.tuple #[])) wr) := sym_close ham hmb HMD.out HEN.out (by omega) (by omega) t4 t3 HI.out HD2.out.1.1 HD2.out.1.2 (Pm.refl _ _ _) (pre_none (by omega) (by omega) (.inl (by omega))) HD2.out.2.1 HD2.out.2.2
                    clear HD2
                    go_wp2
                    go_end0
                    exact HX.out))
          · first
            | (exfalso; omega)
            | (have HD1 : Hid (DS wr e B (rot D s m en) ∧ Off (SBl e B) w wr) := by
                 rw [rot_id D s m en (by omega) (by omega) t3]
                 exact ⟨HD.out, HO.out⟩
               clear HD HO
               have c3 : en < b := by omega
               by_cases c2 : a < s
               · first
                 | (exfalso; omega)
                 | (have HD2 : Hid ((Pm a md (rot D s m en) (rot D s m en) ∧ (Pre e a s md (rot D s m en) → Srt e.val a md (rot D s m en))) ∧ DS wr e B (rot D s m en) ∧ Off (SBl e B) w wr) := ⟨⟨Pm.refl _ _ _, pre_none (by omega) (by omega) (.inr (by omega))⟩, HD1.out⟩
                    clear HD1
                    go_wp2_with fail
                    refine (IH.out _ e B md en b _ (by omega) HD2.out.2.1 (by omega) c3 hbn).mono ?_
                    rintro _ w3 ⟨D3, rfl, p3, s3, hd3, ho3⟩
                    have HX : Hid (SymPost e B a m b D w (.returned (.tuple #[])) w3) := sym_close ham hmb HMD.out HEN.out (by omega) (by omega) t4 t3 HI.out HD2.out.1.1 HD2.out.1.2 p3 (fun hp => s3 hp.1 hp.2.1 hp.2.2.1 hp.2.2.2) hd3 (HD2.out.2.2.trans ho3)
                    clear p3 s3 hd3 ho3 HD2
                    go_wp2
                    go_end0
                    exact HX.out)
               · first
                 | (exfalso; omega)
                 | (have HD2 : Hid ((Pm a md (rot D s m en) (rot D s m en) ∧ (Pre e a s md (rot D s m en) → Srt e.val a md (rot D s m en))) ∧ DS wr e B (rot D s m en) ∧ Off (SBl e B) w wr) := ⟨⟨Pm.refl _ _ _, pre_none (by omega) (by omega) (.inl (by omega))⟩, HD1.out⟩
                    clear HD1
                    go_wp2_with fail
                    refine (IH.out _ e B md en b _ (by omega) HD2.out.2.1 (by omega) c3 hbn).mono ?_
                    rintro _ w3 ⟨D3, rfl, p3, s3, hd3, ho3⟩
                    have HX : Hid (SymPost e B a m b D w (.returned (.tuple #[])) w3) := sym_close ham hmb HMD.out HEN.out (by omega) (by omega) t4 t3 HI.out HD2.out.1.1 HD2.out.1.2 p3 (fun hp => s3 hp.1 hp.2.1 hp.2.2.1 hp.2.2.2) hd3 (HD2.out.2.2.trans ho3)
                    clear p3 s3 hd3 ho3 HD2
                    go_wp2
                    go_end0
                    exact HX.out))
end Go.Proofs.Yteckbhpjhohanaa
