/- delta: changes. -/
import Derived.Test.YtgkdggidgaifhaaMA
namespace Go.Proofs.Ytgkdggidgaifhaa
open Go.RowKit
set_option linter.unusedVariables false
set_option linter.unusedSimpArgs false

theorem two_boxesR (w : World) (r r' : Int × Int) (t t' : TypeId) : ∀ W, W = ((w.alloc (.cells #[.int .i64 r.1, .int .i64 r.2] t)).alloc (.cells #[.int .i64 r'.1, .int .i64 r'.2] t')) → Below w.heap.size w W ∧ BoxA W w.heap.size r ∧ BoxA W (w.heap.size + 1) r' ∧ W.heap.size = w.heap.size + 2 := by
  rintro W rfl
  have s1 : (w.alloc (.cells #[.int .i64 r.1, .int .i64 r.2] t)).heap.size = w.heap.size + 1 := by simp
  have b1 : Below w.heap.size w (w.alloc (.cells #[.int .i64 r.1, .int .i64 r.2] t)) := (Below.refl _ _).alloc (Nat.le_refl _) _
  have x1 := BoxA.new w t r
  generalize w.alloc (.cells #[.int .i64 r.1, .int .i64 r.2] t) = W1 at *
  have b2 : Below W1.heap.size W1 (W1.alloc (.cells #[.int .i64 r'.1, .int .i64 r'.2] t')) := (Below.refl _ _).alloc (Nat.le_refl _) _
  have x2 := BoxA.new W1 t' r'
  rw [s1] at x2
  exact ⟨b1.trans (b2.mono (by omega)), x1.off (S := fun _ => False) (Off.of_below b2) id, x2, by simp [s1]⟩
def lenV : Value → Nat
  | .slice _ n _ => n
  | _ => 0
/-- changes has answered. -/
def ChgPost {α σ : Type} {f : α → Chg → α × Bool} {K : SnkF σ} (C : CbC f) (M : Snk K) (w : World) (T : Nat) (O Ov : Nat → Prop) (s : σ) (p : Int) (a : α) (e : Ending) (w' : World) : Prop :=
  ∃ Ov' : Nat → Prop, e = .returned (.int .i64 0) ∧ TrAt M w' T O s p ∧ C.Iv w' Ov' a ∧ Off (fun k => O k ∨ Ov k) w w' ∧ ∀ k, Ov' k → Ov k ∨ w.heap.size ≤ k
theorem ChIv.post {α σ : Type} {f : α → Chg → α × Bool} {K : SnkF σ} {C : CbC f} {M : Snk K} {w0 W : World} {T : Nat} {O Ov Ov' : Nat → Prop} {s : σ} {p : Int} {A1 A2 : Option Addr} {L R : List Tp} {a : α} (h : ChIv C M w0 W T O Ov Ov' s p A1 A2 L R a) : ChgPost C M w0 T O Ov s p a (.returned (.int .i64 0)) W :=
  ⟨Ov', rfl, h.tr, h.iv, h.off, h.gr⟩
set_option maxRecDepth 100000 in
set_option maxHeartbeats 8000000 in
theorem changes_any {α σ : Type} {f : α → Chg → α × Bool} {K : SnkF σ} {M : Snk K} (hK : K.Good) (C : CbC f) {w : World} {T : Nat} {O Ov : Nat → Prop} {s s1 s2 : σ} {p : Int} {a : α} {r1 r2 : Int × Int} {ps qs : List (Nat × Bytes)} {l1 l2 : Int} {m1 m2 m3 m4 : Bool}
    (h : TrAt M w T O s p) (hi : C.Iv w Ov a) (hr : K.Rdy s 0) (hr1 : K.Rdy s1 0) (hc : C.Rdy a (ps.length + qs.length)) (d1 : ∀ k, O k → ¬ Ov k) (d2 : ¬ Ov T) (hp : ps.length ≤ 149796) (hq : qs.length ≤ 149796)
    (hw1 : walkF K (pairsC (fMo fCo)) 7 (s, 1048576, ([], true)) r1 0 0 = ((s1, l1, (ps, m1)), m2, 0)) (hw2 : walkF K (pairsC (fMo fCo)) 7 (s1, 1048576, ([], true)) r2 0 0 = ((s2, l2, (qs, m3)), m4, 0)) :
    Calls Try.prog 28 #[.pointer (some ⟨T, 0, none⟩), addrV r1, addrV r2, C.fv] w (ChgPost C M w T O Ov s2 p (foldE f a (mergeN (ps.length + qs.length) ps qs)).1) := by
  obtain ⟨ra1, rb1⟩ := r1
  obtain ⟨ra2, rb2⟩ := r2
  have H := Lib.hid h
  have HI := Lib.hid hi
  have HR := Lib.hid hr
  have HR1 := Lib.hid hr1
  have HC := Lib.hid hc
  have HW1 := Lib.hid hw1
  have HW2 := Lib.hid hw2
  have HD1 := Lib.hid d1
  have HD2 := Lib.hid d2
  have HP := Lib.hid hp
  have HQ := Lib.hid hq
  have HOL := Lib.hid (fun k hk => M.lt h.at_ (k := k) hk)
  have HVL := Lib.hid (fun k hk => C.lt hi (k := k) hk)
  have hT := h.lt
  clear h hi hr hr1 hc hw1 hw2 d1 d2 hp hq
  have hP1 : Hid (∀ W', Calls Try.prog 47 #[.pointer (some ⟨T, 0, none⟩), .agg #[.int .i64 ra1, .int .i64 rb1]] W' (DpPost W' T (ra1, rb1))) := Lib.hid fun W' => dpairs_any W' T (ra1, rb1)
  have hP2 : Hid (∀ W', Calls Try.prog 47 #[.pointer (some ⟨T, 0, none⟩), .agg #[.int .i64 ra2, .int .i64 rb2]] W' (DpPost W' T (ra2, rb2))) := Lib.hid fun W' => dpairs_any W' T (ra2, rb2)
  unfold addrV
  generalize hfv : C.fv = fv
  have HFV := Lib.hid hfv
  clear hfv
  go_enter Try.func28, Try.ntmps28
  go_upto_region 1 with (fail)
  refine wp_forget (fun W => Below w.heap.size w W ∧ BoxA W w.heap.size (ra1, rb1) ∧ BoxA W (w.heap.size + 1) (ra2, rb2) ∧ W.heap.size = w.heap.size + 2) (two_boxesR w (ra1, rb1) (ra2, rb2) _ _ _ rfl) ?_
  rintro W0 ⟨hb0, hx1, hx2, hs0⟩
  have q0 := hx1.1
  have q1 := hx1.2.1
  have q2 := hx2.1
  have q3 := hx2.2.1
  have lx1 := hx1.lt
  have lx2 := hx2.lt
  have HB0 := Lib.hid hb0
  simp only at q0 q1 q2 q3
  have HS0 := Lib.hid hs0
  clear hx1 hx2 hb0 hs0
  have HNO : Hid (∀ k, w.heap.size ≤ k → ¬ O k) := Lib.hid fun k hk e => by have := HOL.out k e; omega
  go_cut [9, 10] from 9 to 24 (fun s9 s10 W => ∃ A1 A2 L R c1 c2, s9 = .slice A1 L.length c1 ∧ L.length ≤ c1 ∧ s10 = .slice A2 R.length c2 ∧ R.length ≤ c2 ∧ tpP L = ps ∧ tpP R = qs ∧ ChIv C M w W T O Ov Ov s2 p A1 A2 L R a)
  case first =>
    go_region_held3 (fun W => W.cell? ⟨w.heap.size, 0, none⟩ = some (.int .i64 ra1) ∧ W.cell? ⟨w.heap.size, 1, none⟩ = some (.int .i64 rb1) ∧ W.cell? ⟨w.heap.size + 1, 0, none⟩ = some (.int .i64 ra2) ∧ W.cell? ⟨w.heap.size + 1, 1, none⟩ = some (.int .i64 rb2))
      (first | exact ⟨q0, q1, q2, q3⟩ | go_keep)
      (first
        | (go_at_call 47; (with_reducible refine (hP1.out _).mono ?_); rintro e V1 ⟨rfl, hb, hs1, p1, p2⟩; have hb1 : Below W0.heap.size W0 V1 := (by first | exact hb | exact ((Below.refl W0.heap.size W0).drew).trans hb); have q0 := (hb1.cell (p := ⟨w.heap.size, 0, none⟩) lx1).trans q0; have q1 := (hb1.cell (p := ⟨w.heap.size, 1, none⟩) lx1).trans q1; have q2 := (hb1.cell (p := ⟨w.heap.size + 1, 0, none⟩) lx2).trans q2; have q3 := (hb1.cell (p := ⟨w.heap.size + 1, 1, none⟩) lx2).trans q3; have lx1 := Nat.lt_of_lt_of_le lx1 hb1.size; have lx2 := Nat.lt_of_lt_of_le lx2 hb1.size; have HC1 : Hid (∀ W', Below V1.heap.size V1 W' → Calls Try.prog 46 #[.func (.func 62) #[] #[.pointer (some ⟨W0.heap.size, 0, none⟩), .pointer (some ⟨W0.heap.size + 1, 0, none⟩)]] W' (CoPost M W' T O s1 p ps)) := Lib.hid (fun (W' : World) (hb : Below V1.heap.size V1 W') => collect_any (M := M) hK (ps := ps) (H.out.up ((HB0.out.trans (hb1.mono HB0.out.size)).trans (hb.mono (Nat.le_trans HB0.out.size hb1.size)))) HR.out HW1.out ((hb.cell (lt_of_cell p1)).trans p1) (p2.off (S := fun _ => False) (Off.of_below hb) id)); have HX1 := Lib.hid (HB0.out.trans (hb1.mono HB0.out.size)); clear hb hb1 hs1 p1 p2)
        | (go_at_call 46; (with_reducible refine (HC1.out _ (by first | exact (Below.refl _ _).drew | exact Below.refl _ _)).mono ?_); rintro e V2 ⟨A1, c1, L, rfl, hk1⟩; have q0 := (hk1.off.cell (p := ⟨w.heap.size, 0, none⟩) lx1 (HNO.out _ (by simp))).trans q0; have q1 := (hk1.off.cell (p := ⟨w.heap.size, 1, none⟩) lx1 (HNO.out _ (by simp))).trans q1; have q2 := (hk1.off.cell (p := ⟨w.heap.size + 1, 0, none⟩) lx2 (HNO.out _ (by simp))).trans q2; have q3 := (hk1.off.cell (p := ⟨w.heap.size + 1, 1, none⟩) lx2 (HNO.out _ (by simp))).trans q3; have lx1 := Nat.lt_of_lt_of_le lx1 hk1.off.size; have lx2 := Nat.lt_of_lt_of_le lx2 hk1.off.size; have HK1 := Lib.hid hk1; clear hk1)
        | (go_at_call 47; (with_reducible refine (hP2.out _).mono ?_); rintro e V3 ⟨rfl, hb, hs1, p1, p2⟩; have hb1 : Below V2.heap.size V2 V3 := (by first | exact hb | exact ((Below.refl V2.heap.size V2).drew).trans hb); have q0 := (hb1.cell (p := ⟨w.heap.size, 0, none⟩) lx1).trans q0; have q1 := (hb1.cell (p := ⟨w.heap.size, 1, none⟩) lx1).trans q1; have q2 := (hb1.cell (p := ⟨w.heap.size + 1, 0, none⟩) lx2).trans q2; have q3 := (hb1.cell (p := ⟨w.heap.size + 1, 1, none⟩) lx2).trans q3; have lx1 := Nat.lt_of_lt_of_le lx1 hb1.size; have lx2 := Nat.lt_of_lt_of_le lx2 hb1.size; have HC2 : Hid (∀ W', Below V3.heap.size V3 W' → Calls Try.prog 46 #[.func (.func 62) #[] #[.pointer (some ⟨V2.heap.size, 0, none⟩), .pointer (some ⟨V2.heap.size + 1, 0, none⟩)]] W' (CoPost M W' T O s2 p qs)) := Lib.hid (fun (W' : World) (hb : Below V3.heap.size V3 W') => collect_any (M := M) hK (ps := qs) (HK1.out.tr.up (hb1.trans (hb.mono hb1.size))) HR1.out HW2.out ((hb.cell (lt_of_cell p1)).trans p1) (p2.off (S := fun _ => False) (Off.of_below hb) id)); have HX2 := Lib.hid hb1; clear hb hb1 hs1 p1 p2)
        | (go_at_call 46; (with_reducible refine (HC2.out _ (by first | exact (Below.refl _ _).drew | exact Below.refl _ _)).mono ?_); rintro e V4 ⟨A2, c2, R, rfl, hk2⟩; have q0 := (hk2.off.cell (p := ⟨w.heap.size, 0, none⟩) lx1 (HNO.out _ (by simp))).trans q0; have q1 := (hk2.off.cell (p := ⟨w.heap.size, 1, none⟩) lx1 (HNO.out _ (by simp))).trans q1; have q2 := (hk2.off.cell (p := ⟨w.heap.size + 1, 0, none⟩) lx2 (HNO.out _ (by simp))).trans q2; have q3 := (hk2.off.cell (p := ⟨w.heap.size + 1, 1, none⟩) lx2 (HNO.out _ (by simp))).trans q3; have HK2 := Lib.hid hk2; clear hk2))
    all_goals
      go_wp2_with fail
      go_meet
      have hn1 := HK1.out
      have hn2 := HK2.out
      have hn3 := HX1.out
      have hn4 := HX2.out
      have hlw : Off O w V4 := ((((Off.of_below hn3).mono (fun _ => False.elim)).trans hn1.off).step hn4).trans hn2.off
      have hls : LsAt V4 A1 L := (hn1.ls.off (S := fun _ => False) (Off.of_below hn4) (fun _ => False.elim)).off hn2.off (fun k e e2 => HNO.out k (Nat.le_trans hn3.size (hn1.ge k e2)) e)
      exact ⟨A1, A2, L, R, c1, c2, rfl, hn1.le, rfl, hn2.le, hn1.ps, hn2.ps, ⟨C.off HI.out hlw HD1.out, hn2.tr, hls, hn2.ls, fun k e1 e2 => (by have := hn1.ls.lt e1; have := hn2.ge k e2; have := hn4.size; omega),
        fun k e => ⟨fun e2 => (by have := HVL.out k e2; have := hn1.ge k e; have := hn3.size; omega), Nat.le_trans hn3.size (hn1.ge k e)⟩,
        fun k e => ⟨fun e2 => (by have := HVL.out k e2; have := hn2.ge k e; have := hn3.size; have := hn1.off.size; have := hn4.size; omega), Nat.le_trans hn3.size (Nat.le_trans hn1.off.size (Nat.le_trans hn4.size (hn2.ge k e)))⟩, HD1.out, HD2.out, hlw.mono fun k e => .inl e, fun k e => .inl e⟩⟩
  case rest =>
  obtain ⟨A1, A2, L, R, c1, c2, rfl, hc1, rfl, hc2, hps, hqs, hch⟩ := hcut
  have HLA := Lib.hid (show L.length = ps.length by rw [← hps]; simp [tpP])
  have HLB := Lib.hid (show R.length = qs.length by rw [← hqs]; simp [tpP])
  have HPS := Lib.hid hps
  have HQS := Lib.hid hqs
  have HCH := Lib.hid hch
  clear hps hqs hch q0 q1 q2 q3 hP1 hP2 HW1 HW2 lx1 lx2
  go_wp2_with fail
  go_loopw [9, 10] (fun a9 b9 wr => ∃ A1 A2 L R c1 c2 Ov' a' n, a9 = .slice A1 L.length c1 ∧ b9 = .slice A2 R.length c2 ∧ L.length ≤ c1 ∧ R.length ≤ c2 ∧ L.length + R.length ≤ n ∧ L.length ≤ 149796 ∧ R.length ≤ 149796 ∧ ChIv C M w wr T O Ov Ov' s2 p A1 A2 L R a' ∧ C.Rdy a' n ∧ (foldE f a (mergeN (ps.length + qs.length) ps qs)).1 = (foldE f a' (mergeN n (tpP L) (tpP R))).1) (fun a9 b9 _ => lenV a9 + lenV b9)
  case atStart => exact ⟨A1, A2, L, R, c1, c2, Ov, a, ps.length + qs.length, rfl, rfl, hc1, hc2, by rw [HLA.out, HLB.out]; exact Nat.le_refl _, by rw [HLA.out]; exact HP.out, by rw [HLB.out]; exact HQ.out, HCH.out, HC.out, by rw [HPS.out, HQS.out]⟩
  case round =>
    clear HCH HLA HLB HPS HQS hc1 hc2 HI H HD1 HD2 HP HQ HR HR1 HC
    obtain ⟨A1, A2, L, R, c1, c2, Ov', a', n, rfl, rfl, hc1, hc2, hn, hL, hR, hch, hrd, hfo⟩ := hrel
    have hsum : IntKind.i64.wrap ((L.length : Int) + (R.length : Int)) = (L.length : Int) + (R.length : Int) := IntWalk.i64_in _ (by omega)
    have HCH := Lib.hid hch
    have HRD := Lib.hid hrd
    have HFO := Lib.hid hfo
    clear hch hrd hfo
    by_cases hz : L.length + R.length = 0
    · have hl0 : L = [] := List.length_eq_zero_iff.1 (by omega)
      have hr0 : R = [] := List.length_eq_zero_iff.1 (by omega)
      subst hl0 hr0
      have hfo2 : (foldE f a (mergeN (ps.length + qs.length) ps qs)).1 = a' := by
        have := HFO.out
        rw [this]
        cases n <;> rfl
      have hfo3 := Lib.hid hfo2
      clear hfo2 hsum hn HFO
      simp only [List.length_nil]
      go_wp2
      go_ret
      have hpp := HCH.out.post
      rw [hfo3.out]
      exact hpp
    have hpos : (0 : Int) < (L.length : Int) + (R.length : Int) := by omega
    have hdp : decide ((0 : Int) < (L.length : Int) + (R.length : Int)) = true := decide_eq_true hpos
    obtain ⟨n, rfl⟩ : ∃ m, n = m + 1 := ⟨n - 1, by omega⟩
    go_upto_region 3 with (fail)
    clear hsum hdp
    -- what first tells of both
    obtain ⟨k1, w1, n1, d1, b1, HF1, HX1⟩ : ∃ (k1 : Nat) (w1 : Option Addr) (n1 d1 : Nat) (b1 : Bool), Hid (∀ W', Below wr.heap.size wr W' → Calls Try.prog 48 #[.slice A1 L.length c1] W' (FsPost W' ((k1 : Int), .slice w1 n1 d1, b1))) ∧
        Hid ((b1 = false ∧ L = [] ∧ k1 = 0) ∨ (b1 = true ∧ ∃ x L', L = x :: L' ∧ x.1 = k1 ∧ x.2.2 = .slice w1 n1 d1)) := by
      cases L with
      | nil => exact ⟨0, none, 0, 0, false, Lib.hid fun W' _ => first_nil W' A1 c1, Lib.hid (.inl ⟨rfl, rfl, rfl⟩)⟩
      | cons x L' =>
        obtain ⟨g, o, rfl, e0, e1, e2, hs, _⟩ := HCH.out.l.head
        obtain ⟨w1, n1, d1, hv, _⟩ := id hs
        refine ⟨x.1, w1, n1, d1, true, Lib.hid fun W' hb => ?_, Lib.hid (.inr ⟨rfl, x, L', rfl, rfl, hv⟩)⟩
        rw [← hv]
        exact first_cons (x := x) (by simp) (hs.up hb) ((hb.cell (lt_of_cell e0)).trans e0) ((hb.cell (lt_of_cell e1)).trans e1) ((hb.cell (lt_of_cell e2)).trans e2)
    obtain ⟨k2, w2, n2, d2, b2, HF2, HX2⟩ : ∃ (k2 : Nat) (w2 : Option Addr) (n2 d2 : Nat) (b2 : Bool), Hid (∀ W', Below wr.heap.size wr W' → Calls Try.prog 48 #[.slice A2 R.length c2] W' (FsPost W' ((k2 : Int), .slice w2 n2 d2, b2))) ∧
        Hid ((b2 = false ∧ R = [] ∧ k2 = 0) ∨ (b2 = true ∧ ∃ x L', R = x :: L' ∧ x.1 = k2 ∧ x.2.2 = .slice w2 n2 d2)) := by
      cases R with
      | nil => exact ⟨0, none, 0, 0, false, Lib.hid fun W' _ => first_nil W' A2 c2, Lib.hid (.inl ⟨rfl, rfl, rfl⟩)⟩
      | cons x L' =>
        obtain ⟨g, o, rfl, e0, e1, e2, hs, _⟩ := HCH.out.r.head
        obtain ⟨w1, n1, d1, hv, _⟩ := id hs
        refine ⟨x.1, w1, n1, d1, true, Lib.hid fun W' hb => ?_, Lib.hid (.inr ⟨rfl, x, L', rfl, rfl, hv⟩)⟩
        rw [← hv]
        exact first_cons (x := x) (by simp) (hs.up hb) ((hb.cell (lt_of_cell e0)).trans e0) ((hb.cell (lt_of_cell e1)).trans e1) ((hb.cell (lt_of_cell e2)).trans e2)
    have HX := Lib.hid (fun (V1 V2 : World) (h1 : Below wr.heap.size wr V1) (h2 : Below (V1.alloc (.cells #[.int .i64 (k1 : Nat), .slice w1 n1 d1, .int .i64 0] 104)).heap.size (V1.alloc (.cells #[.int .i64 (k1 : Nat), .slice w1 n1 d1, .int .i64 0] 104)) V2) =>
      show Below wr.heap.size wr (V2.alloc (.cells #[.int .i64 (k2 : Nat), .slice w2 n2 d2, .int .i64 0] 104)) ∧ Bx (V2.alloc (.cells #[.int .i64 (k2 : Nat), .slice w2 n2 d2, .int .i64 0] 104)) V1.heap.size [.int .i64 (k1 : Nat), .slice w1 n1 d1, .int .i64 0] ∧ Bx (V2.alloc (.cells #[.int .i64 (k2 : Nat), .slice w2 n2 d2, .int .i64 0] 104)) V2.heap.size [.int .i64 (k2 : Nat), .slice w2 n2 d2, .int .i64 0] ∧ V1.heap.size ≠ V2.heap.size from by
        have x1 := Bx.new V1 104 [.int .i64 (k1 : Nat), .slice w1 n1 d1, .int .i64 0] (by simp)
        have y1 : Below V1.heap.size V1 (V1.alloc (.cells #[.int .i64 (k1 : Nat), .slice w1 n1 d1, .int .i64 0] 104)) := (Below.refl _ _).alloc (Nat.le_refl _) _
        have sz : (V1.alloc (.cells #[.int .i64 (k1 : Nat), .slice w1 n1 d1, .int .i64 0] 104)).heap.size = V1.heap.size + 1 := by simp
        have x1' : Bx (V1.alloc (.cells #[.int .i64 (k1 : Nat), .slice w1 n1 d1, .int .i64 0] 104)) V1.heap.size [.int .i64 (k1 : Nat), .slice w1 n1 d1, .int .i64 0] := x1
        generalize V1.alloc (.cells #[.int .i64 (k1 : Nat), .slice w1 n1 d1, .int .i64 0] 104) = X at *
        have y2 : Below V2.heap.size V2 (V2.alloc (.cells #[.int .i64 (k2 : Nat), .slice w2 n2 d2, .int .i64 0] 104)) := (Below.refl _ _).alloc (Nat.le_refl _) _
        have x2 := Bx.new V2 104 [.int .i64 (k2 : Nat), .slice w2 n2 d2, .int .i64 0] (by simp)
        have l1 := h1.size
        have l2 := y1.size
        have l3 := h2.size
        exact ⟨((h1.trans (y1.mono l1)).trans (h2.mono (by omega))).trans (y2.mono (by omega)), (x1'.off (S := fun _ => False) (Off.of_below h2) id).off (S := fun _ => False) (Off.of_below y2) id, x2, by omega⟩)
    go_upto_region 5 with (go_at_call 48; first
      | ((with_reducible refine (HF1.out _ (Below.refl _ _)).mono ?_); rintro e V1 ⟨rfl, hb1⟩; have HB1 := Lib.hid hb1; clear hb1)
      | ((with_reducible refine (HF2.out _ (HB1.out.alloc HB1.out.size _)).mono ?_); rintro e V2 ⟨rfl, hb2⟩; have HB2 := Lib.hid hb2; clear hb2))
    have hall := HX.out V1 V2 HB1.out HB2.out
    obtain ⟨g11, hg11⟩ : ∃ g, V1.heap.size = g := ⟨_, rfl⟩
    obtain ⟨g13, hg13⟩ : ∃ g, V2.heap.size = g := ⟨_, rfl⟩
    rw [hg11, hg13] at hall
    rw [hg11, hg13]
    refine wp_forget (fun W => Below wr.heap.size wr W ∧ Bx W g11 [.int .i64 (k1 : Nat), .slice w1 n1 d1, .int .i64 0] ∧ Bx W g13 [.int .i64 (k2 : Nat), .slice w2 n2 d2, .int .i64 0] ∧ g11 ≠ g13) hall ?_
    clear hall hg11 hg13 HX HB1 HB2 HF1 HF2
    rintro W1 ⟨hbw, hx11, hx13, hne⟩
    have HBW := Lib.hid hbw
    have HX11 := Lib.hid hx11
    have HX13 := Lib.hid hx13
    have c110 := hx11.c 0 _ rfl
    have c111 := hx11.c 1 _ rfl
    have c112 := hx11.c 2 _ rfl
    have c130 := hx13.c 0 _ rfl
    have c131 := hx13.c 1 _ rfl
    have c132 := hx13.c 2 _ rfl
    have l11 := hx11.lt
    have l13 := hx13.lt
    clear hbw hx11 hx13
    go_upto_region 8 with (fail)
    have hx15 := Bx.new W1 40 [.int .i64 0, .slice none 0 0, .slice none 0 0, .bool false, .bool false] (by simp)
    have hb15 : Below W1.heap.size W1 (W1.alloc (.cells #[.int .i64 0, .slice none 0 0, .slice none 0 0, .bool false, .bool false] 40)) := (Below.refl _ _).alloc (Nat.le_refl _) _
    refine wp_forget (fun W => Below W1.heap.size W1 W ∧ Bx W W1.heap.size [.int .i64 0, .slice none 0 0, .slice none 0 0, .bool false, .bool false]) ⟨hb15, hx15⟩ ?_
    clear hx15 hb15 c110 c111 c112 c130 c131 c132
    rintro W2 ⟨hb2, hx15⟩
    have HX211 := Lib.hid (HX11.out.off (S := fun _ => False) (Off.of_below hb2) id)
    have HX213 := Lib.hid (HX13.out.off (S := fun _ => False) (Off.of_below hb2) id)
    have HBW2 := Lib.hid (HBW.out.trans (hb2.mono HBW.out.size))
    obtain ⟨g15, hg15⟩ : ∃ g, W1.heap.size = g := ⟨_, rfl⟩
    have HN15 : Hid (wr.heap.size ≤ g15 ∧ g11 ≠ g15 ∧ g13 ≠ g15) := Lib.hid (by have := HBW.out.size; omega)
    rw [hg15] at hx15 ⊢
    have HX15 := Lib.hid hx15
    have c110 := HX211.out.c 0 _ rfl
    have c111 := HX211.out.c 1 _ rfl
    have c130 := HX213.out.c 0 _ rfl
    have c131 := HX213.out.c 1 _ rfl
    clear hg15 hx15 hb2 HX11 HX13 HBW l11 l13
    have l11 := HX211.out.lt
    have l13 := HX213.out.lt
    obtain ⟨t1, ht1⟩ : ∃ t, t = (b1 && (!b2 || decide (k1 ≤ k2))) := ⟨_, rfl⟩
    obtain ⟨t2, ht2⟩ : ∃ t, t = (b2 && (!b1 || decide (k2 ≤ k1))) := ⟨_, rfl⟩
    have HT1 := Lib.hid ht1
    have HT2 := Lib.hid ht2
    clear ht1 ht2
    go_cut [64] from 53 to 64 (fun s64 W => s64 = .bool t1 ∧ W = W2)
    case first =>
      cases b1 <;> cases b2
      all_goals
        go_wp2_with fail
        go_meet
        exact ⟨by rw [HT1.out]; simp, rfl⟩
    case rest =>
    obtain ⟨rfl, rfl⟩ := hcut
    go_upto_if 64 with (fail)
    have c150 := HX15.out.c 0 _ rfl
    have c151 := HX15.out.c 1 _ rfl
    have c153 := HX15.out.c 3 _ rfl
    have f150 := HX15.out.f 0
    have f151 := HX15.out.f 1
    have f153 := HX15.out.f 3
    have l15 := HX15.out.lt
    obtain ⟨-, m1115, m1315⟩ := HN15.out
    go_cut [] from 65 to 71 (fun V => ∃ kc vc, Bx V g15 [.int .i64 kc, vc, .slice none 0 0, .bool t1, .bool false] ∧ (t1 = true → kc = (k1 : Nat) ∧ vc = .slice w1 n1 d1) ∧ (t1 = false → vc = .slice none 0 0) ∧ Off (· = g15) wc V)
    case first =>
      cases t1 with
      | false =>
        go_wp2_with fail
        go_meet
        exact ⟨_, _, HX15.out, by simp, fun _ => rfl, Off.refl _ _⟩
      | true =>
        go_wp2_with fail
        go_region
        go_wp2_with fail
        go_meet
        exact ⟨_, _, (((HX15.out.set 0 (by simp) _).set 1 (by simp) _).set 3 (by simp) _).off (S := fun _ => False) (Off.refl _ _).drew id, fun _ => ⟨rfl, rfl⟩, by simp, ((((Off.refl (· = g15) wc).setCell (p := ⟨g15, 0, none⟩) rfl _).setCell (p := ⟨g15, 1, none⟩) rfl _).setCell (p := ⟨g15, 3, none⟩) rfl _).drew⟩
    case rest =>
    obtain ⟨kc, vc, hxc, ht, hf, hoc⟩ := hcut
    have HXc := Lib.hid hxc
    have HTc := Lib.hid ht
    have HFc := Lib.hid hf
    have HX311 := Lib.hid (HX211.out.off hoc m1115)
    have HX313 := Lib.hid (HX213.out.off hoc m1315)
    have HOc := Lib.hid hoc
    clear hxc ht hf hoc c110 c111 c130 c131 c150 c151 c153 f150 f151 f153 l11 l13 l15 HX211 HX213 HX15
    have c110 := HX311.out.c 0 _ rfl
    have c130 := HX313.out.c 0 _ rfl
    have c131 := HX313.out.c 1 _ rfl
    have l11 := HX311.out.lt
    have l13 := HX313.out.lt
    go_upto_region 10 with (fail)
    go_cut [83] from 72 to 83 (fun s83 W => s83 = .bool t2 ∧ W = wc)
    case first =>
      cases b1 <;> cases b2
      all_goals
        go_wp2_with fail
        go_meet
        exact ⟨by rw [HT2.out]; simp, rfl⟩
    case rest =>
    obtain ⟨rfl, rfl⟩ := hcut
    go_upto_if 83 with (fail)
    have c150 := HXc.out.c 0 _ rfl
    have c152 := HXc.out.c 2 _ rfl
    have c154 := HXc.out.c 4 _ rfl
    have f150 := HXc.out.f 0
    have f152 := HXc.out.f 2
    have f154 := HXc.out.f 4
    have l15 := HXc.out.lt
    go_cut [] from 84 to 90 (fun V => ∃ kd vd, Bx V g15 [.int .i64 kd, vc, vd, .bool t1, .bool t2] ∧ (t2 = true → kd = (k2 : Nat) ∧ vd = .slice w2 n2 d2) ∧ (t2 = false → vd = .slice none 0 0 ∧ kd = kc) ∧ Off (· = g15) wc V)
    case first =>
      cases t2 with
      | false =>
        go_wp2_with fail
        go_meet
        exact ⟨_, _, HXc.out, by simp, fun _ => ⟨rfl, rfl⟩, Off.refl _ _⟩
      | true =>
        go_wp2_with fail
        go_region
        go_wp2_with fail
        go_meet
        exact ⟨_, _, (((HXc.out.set 0 (by simp) _).set 2 (by simp) _).set 4 (by simp) _).off (S := fun _ => False) (Off.refl _ _).drew id, fun _ => ⟨rfl, rfl⟩, by simp, ((((Off.refl (· = g15) wc).setCell (p := ⟨g15, 0, none⟩) rfl _).setCell (p := ⟨g15, 2, none⟩) rfl _).setCell (p := ⟨g15, 4, none⟩) rfl _).drew⟩
    case rest =>
    obtain ⟨kd, vd, hxd, htd, hfd, hod⟩ := hcut
    have HXd := Lib.hid hxd
    have HTd := Lib.hid htd
    have HFd := Lib.hid hfd
    have HBd : Hid (Below wr.heap.size wr wc) := Lib.hid ((HBW2.out.trans (HOc.out.below (fun k e => by rw [e]; exact HN15.out.1) HBW2.out.size)).trans (hod.below (fun k e => by rw [e]; exact HN15.out.1) (Nat.le_trans HBW2.out.size HOc.out.size)))
    have e3 := hxd.c 3 _ rfl
    have e4 := hxd.c 4 _ rfl
    have l15 := hxd.lt
    clear hxd htd hfd hod c110 c130 c131 c150 c152 c154 f150 f152 f154 l11 l13 HX311 HX313 HXc HOc HBW2
    -- the lists behind
    have HL1 : Hid (t1 = true → ∃ x L' g o, L = x :: L' ∧ A1 = some ⟨g, o, none⟩) := Lib.hid fun e => by
      rcases HX1.out with ⟨e1, _⟩ | ⟨_, x, L', rfl, _⟩
      · have := HT1.out; rw [e, e1] at this; simp at this
      · obtain ⟨g, o, hA, _⟩ := HCH.out.l.head; exact ⟨x, L', g, o, rfl, hA⟩
    have HL2 : Hid (t2 = true → ∃ x L' g o, R = x :: L' ∧ A2 = some ⟨g, o, none⟩) := Lib.hid fun e => by
      rcases HX2.out with ⟨e1, _⟩ | ⟨_, x, L', rfl, _⟩
      · have := HT2.out; rw [e, e1] at this; simp at this
      · obtain ⟨g, o, hA, _⟩ := HCH.out.r.head; exact ⟨x, L', g, o, rfl, hA⟩
    go_upto_if 92 with (fail)
    go_cut [9] from 93 to 94 (fun s9 V => ∃ A' c' L', s9 = .slice A' (List.length L') c' ∧ List.length L' ≤ c' ∧ V = wc ∧ (t1 = true → ∃ x g o, L = x :: L' ∧ A1 = some ⟨g, o, none⟩ ∧ (A' = some ⟨g, o + 3, none⟩ ∨ L' = [])) ∧ (t1 = false → L' = L ∧ A' = A1))
    case first =>
      cases ht1 : t1 with
      | false =>
        subst ht1
        go_wp2_with fail
        go_meet
        exact ⟨A1, c1, L, rfl, hc1, rfl, by simp, fun _ => ⟨rfl, rfl⟩⟩
      | true =>
        subst ht1
        obtain ⟨x, L', g, o, rfl, rfl⟩ := HL1.out rfl
        clear HL1
        simp only [List.length_cons] at hc1
        have hw1 : (1 : Int) ≤ ((L'.length + 1 : Nat) : Int) := by omega
        have hw2 : ((L'.length + 1 : Nat) : Int) ≤ (c1 : Int) := by omega
        simp only [List.length_cons]
        rcases Nat.lt_or_ge 1 c1 with hgt | hle
        · go_wp2_with fail
          go_meet
          exact ⟨_, _, L', rfl, by omega, rfl, fun _ => ⟨x, g, o, rfl, rfl, .inl rfl⟩, by simp⟩
        · obtain rfl : c1 = 1 := by omega
          obtain rfl : L' = [] := List.length_eq_zero_iff.1 (by omega)
          simp only [List.length_nil]
          go_wp2_with fail
          go_meet
          exact ⟨_, _, [], rfl, by simp, rfl, fun _ => ⟨x, g, o, rfl, rfl, .inr rfl⟩, by simp⟩
    case rest =>
    obtain ⟨B1, e1, L1, rfl, he1, rfl, hta, htb⟩ := hcut
    have HTA := Lib.hid hta
    have HTB := Lib.hid htb
    clear hta htb HL1
    go_upto_if 96 with (fail)
    go_cut [10] from 97 to 98 (fun s9 V => ∃ A' c' L', s9 = .slice A' (List.length L') c' ∧ List.length L' ≤ c' ∧ V = wc ∧ (t2 = true → ∃ x g o, R = x :: L' ∧ A2 = some ⟨g, o, none⟩ ∧ (A' = some ⟨g, o + 3, none⟩ ∨ L' = [])) ∧ (t2 = false → L' = R ∧ A' = A2))
    case first =>
      cases ht1 : t2 with
      | false =>
        subst ht1
        go_wp2_with fail
        go_meet
        exact ⟨A2, c2, R, rfl, hc2, rfl, by simp, fun _ => ⟨rfl, rfl⟩⟩
      | true =>
        subst ht1
        obtain ⟨x, L', g, o, rfl, rfl⟩ := HL2.out rfl
        clear HL2
        simp only [List.length_cons] at hc2
        have hw1 : (1 : Int) ≤ ((L'.length + 1 : Nat) : Int) := by omega
        have hw2 : ((L'.length + 1 : Nat) : Int) ≤ (c2 : Int) := by omega
        simp only [List.length_cons]
        rcases Nat.lt_or_ge 1 c2 with hgt | hle
        · go_wp2_with fail
          go_meet
          exact ⟨_, _, L', rfl, by omega, rfl, fun _ => ⟨x, g, o, rfl, rfl, .inl rfl⟩, by simp⟩
        · obtain rfl : c2 = 1 := by omega
          obtain rfl : L' = [] := List.length_eq_zero_iff.1 (by omega)
          simp only [List.length_nil]
          go_wp2_with fail
          go_meet
          exact ⟨_, _, [], rfl, by simp, rfl, fun _ => ⟨x, g, o, rfl, rfl, .inr rfl⟩, by simp⟩
    case rest =>
    obtain ⟨B2, e2, R1, rfl, he2, rfl, hta, htb⟩ := hcut
    have HTC := Lib.hid hta
    have HTD := Lib.hid htb
    clear hta htb HL2
    obtain ⟨ch, HSM⟩ : ∃ ch, Hid (ChSum C M w wc T O Ov Ov' s2 p L R a' n B1 B2 L1 R1 kd vc vd t1 t2 ch) := by
      have hV := HCH.out.up HBd.out
      have g1 := HT1.out
      have g2 := HT2.out
      have g3 := HTc.out
      have g4 := HFc.out
      have g5 := HTd.out
      have g6 := HFd.out
      have g7 := HTA.out
      have g8 := HTB.out
      have g9 := HTC.out
      have g10 := HTD.out
      rcases HX1.out with ⟨rfl, rfl, _⟩ | ⟨rfl, x, L', rfl, hxk, hxv⟩ <;> rcases HX2.out with ⟨rfl, rfl, _⟩ | ⟨rfl, y, R', rfl, hyk, hyv⟩
      · simp at hz
      · simp only [Bool.false_and, Bool.not_false, Bool.true_or, Bool.and_true] at g1 g2
        subst g1 g2
        obtain ⟨rfl, rfl⟩ := g8 rfl
        obtain ⟨_, g, o, e, rfl, hB⟩ := g9 rfl
        obtain ⟨e1, e2⟩ := g5 rfl
        cases e
        rw [e1, e2, g4 rfl, ← hyk, ← hyv]
        exact ⟨_, Lib.hid (hV.sumR hn hB (by simp))⟩
      · simp only [Bool.false_and, Bool.not_false, Bool.true_or, Bool.and_true] at g1 g2
        subst g1 g2
        obtain ⟨rfl, rfl⟩ := g10 rfl
        obtain ⟨_, g, o, e, rfl, hB⟩ := g7 rfl
        obtain ⟨e1, e2⟩ := g3 rfl
        obtain ⟨e3, e4⟩ := g6 rfl
        cases e
        rw [e4, e3, e1, e2, ← hxk, ← hxv]
        exact ⟨_, Lib.hid (hV.sumL hn hB (by simp))⟩
      · simp only [Bool.true_and, Bool.not_true, Bool.false_or] at g1 g2
        rcases Nat.lt_trichotomy k1 k2 with hlt | heq | hgt
        · rw [decide_eq_true (Nat.le_of_lt hlt)] at g1
          rw [decide_eq_false (by omega)] at g2
          subst g1 g2
          obtain ⟨rfl, rfl⟩ := g10 rfl
          obtain ⟨_, g, o, e, rfl, hB⟩ := g7 rfl
          obtain ⟨e1, e2⟩ := g3 rfl
          obtain ⟨e3, e4⟩ := g6 rfl
          cases e
          rw [e4, e3, e1, e2, ← hxk, ← hxv]
          exact ⟨_, Lib.hid (hV.sumL hn hB (by simp; omega))⟩
        · rw [decide_eq_true (Nat.le_of_eq heq)] at g1
          rw [decide_eq_true (by omega)] at g2
          subst g1 g2
          obtain ⟨_, g, o, e, rfl, hB⟩ := g7 rfl
          obtain ⟨_, g', o', e', rfl, hB'⟩ := g9 rfl
          obtain ⟨e1, e2⟩ := g3 rfl
          obtain ⟨e3, e4⟩ := g5 rfl
          cases e
          cases e'
          rw [e4, e3, e2, ← hxv, ← hyv, ← hyk]
          exact ⟨_, Lib.hid (hV.sumB hn hB hB' (by omega))⟩
        · rw [decide_eq_false (by omega)] at g1
          rw [decide_eq_true (by omega)] at g2
          subst g1 g2
          obtain ⟨rfl, rfl⟩ := g8 rfl
          obtain ⟨_, g, o, e, rfl, hB⟩ := g9 rfl
          obtain ⟨e1, e2⟩ := g5 rfl
          cases e
          rw [e1, e2, g4 rfl, ← hyk, ← hyv]
          exact ⟨_, Lib.hid (hV.sumR hn hB (by simp; omega))⟩
    clear HX1 HX2 HT1 HT2 HTc HFc HTd HFd HTA HTB HTC HTD HBd HCH HN15 hz hpos hn hc1 hc2 e3 e4 l15
    obtain ⟨ck, co, cn⟩ := ch
    have h1 := HSM.out.k
    have h2 := HSM.out.q1
    have h3 := HSM.out.q2
    simp only at h1 h2 h3
    obtain ⟨v1, v2, e, _, hs1, hs2, _⟩ := HSM.out.arg
    simp only [Array.mk.injEq, List.cons.injEq, Value.agg.injEq, true_and, and_true] at e
    obtain ⟨_, rfl, rfl, _⟩ := e
    obtain ⟨x1, x2, x3, rfl, hx4, hx5⟩ := hs1
    obtain ⟨y1, y2, y3, rfl, hy4, hy5⟩ := hs2
    subst h1 h2 h3
    have z0 := HXd.out.c 0 _ rfl
    have z1 := HXd.out.c 1 _ rfl
    have z2 := HXd.out.c 2 _ rfl
    have z3 := HXd.out.c 3 _ rfl
    have z4 := HXd.out.c 4 _ rfl
    have l15 := HXd.out.lt
    go_upto_region 16 with (fail)
    have HEQ : Hid (∀ W, Below wc.heap.size wc W → Calls Try.prog 49 #[.slice x1 x2 x3, .slice y1 y2 y3] W fun e w' => e = .returned (.bool (decide (co.getD [] = cn.getD []))) ∧ w' = W) := Lib.hid fun W hb => equal_any W x1 y1 x2 x3 y2 y3 _ _ (hx5.up hb) (hy5.up hb)
    have HNE : Hid (co ≠ cn → C.Iv wc Ov' a' ∧ C.Rdy a' 1 ∧ argC wc Ov' (ck, co, cn) #[.agg #[.int .i64 (ck : Nat), .slice x1 x2 x3, .slice y1 y2 y3, .bool co.isSome, .bool cn.isSome]]) := Lib.hid fun _ => ⟨HSM.out.iv.iv, C.mono _ _ _ HRD.out (by omega), HSM.out.arg⟩
    have HRS : Hid (∀ (W2 : World) (O2 : Nat → Prop), co ≠ cn → C.Iv W2 O2 (f a' (ck, co, cn)).1 → Off Ov' wc W2 → (∀ k, O2 k → Ov' k ∨ ownC #[.agg #[.int .i64 (ck : Nat), .slice x1 x2 x3, .slice y1 y2 y3, .bool co.isSome, .bool cn.isSome]] k ∨ wc.heap.size ≤ k) →
        ChIv C M w W2 T O Ov O2 s2 p B1 B2 L1 R1 (f a' (ck, co, cn)).1 ∧ (((f a' (ck, co, cn)).2 = true → C.Rdy (f a' (ck, co, cn)).1 n ∧ (foldE f a (mergeN (ps.length + qs.length) ps qs)).1 = (foldE f (f a' (ck, co, cn)).1 (mergeN n (tpP L1) (tpP R1))).1) ∧ ((f a' (ck, co, cn)).2 = false → (foldE f a (mergeN (ps.length + qs.length) ps qs)).1 = (f a' (ck, co, cn)).1))) := Lib.hid fun W2 O2 hne hi ho hg => by
      have hown : ∀ k, ownC #[.agg #[.int .i64 (ck : Nat), .slice x1 x2 x3, .slice y1 y2 y3, .bool co.isSome, .bool cn.isSome]] k → vblk (.slice x1 x2 x3) k ∨ vblk (.slice y1 y2 y3) k := fun k ⟨x, v1, v2, y, z, e, h⟩ => by
        simp only [Array.mk.injEq, List.cons.injEq, Value.agg.injEq] at e
        obtain ⟨⟨_, rfl, rfl, _⟩, _⟩ := e
        exact h
      refine ⟨HSM.out.iv.call hi ho hg (fun k e => (HSM.out.own k (hown k e)).1) (fun k e => (HSM.out.own k (hown k e)).2.1) (fun k e => ?_), ?_⟩
      · have := (HSM.out.own k (hown k e)).2.2
        exact ⟨HNO.out k this, by omega, this⟩
      · have heq := HSM.out.eq
        rw [if_neg hne] at heq
        have hfo := HFO.out
        rw [heq] at hfo
        rw [hfo]
        constructor
        · intro h2
          refine ⟨C.step _ _ _ HRD.out h2, ?_⟩
          show (if (f a' (ck, co, cn)).2 = true then _ else _ : α × Bool).1 = _
          rw [if_pos h2]
        · intro h2
          show (if (f a' (ck, co, cn)).2 = true then _ else _ : α × Bool).1 = _
          rw [if_neg (by rw [h2]; simp)]
    have HSK : Hid (co = cn → ChIv C M w wc T O Ov Ov' s2 p B1 B2 L1 R1 a' ∧ C.Rdy a' n ∧ (foldE f a (mergeN (ps.length + qs.length) ps qs)).1 = (foldE f a' (mergeN n (tpP L1) (tpP R1))).1) := Lib.hid fun e => by
      have heq := HSM.out.eq
      rw [if_pos e] at heq
      have hfo := HFO.out
      rw [heq] at hfo
      exact ⟨HSM.out.iv, C.mono _ _ _ HRD.out (by omega), hfo⟩
    have HNN := Lib.hid HSM.out.nn
    have HLT : Hid (L1.length + R1.length ≤ n ∧ L1.length + R1.length < L.length + R.length ∧ L1.length ≤ L.length ∧ R1.length ≤ R.length) := Lib.hid ⟨HSM.out.le, HSM.out.lt, HSM.out.lL, HSM.out.lR⟩
    clear HXd HSM HFO HRD hx4 hx5 hy4 hy5
    go_cut [120] from 99 to 120 (fun s120 W => ∃ Ov2 a2 b, s120 = .bool b ∧ ChIv C M w W T O Ov Ov2 s2 p B1 B2 L1 R1 a2 ∧ (b = false → C.Rdy a2 n ∧ (foldE f a (mergeN (ps.length + qs.length) ps qs)).1 = (foldE f a2 (mergeN n (tpP L1) (tpP R1))).1) ∧ (b = true → (foldE f a (mergeN (ps.length + qs.length) ps qs)).1 = a2))
    case first =>
      by_cases hcc : co = cn
      · obtain ⟨i1, i2, i3⟩ := HSK.out hcc
        have HI1 := Lib.hid i1
        have HI2 := Lib.hid (And.intro i2 i3)
        clear i1 i2 i3
        subst hcc
        cases co with
        | none => exact absurd rfl (HNN.out rfl)
        | some vo =>
          clear HNN HNE HRS HSK
          simp only [Option.getD_some, decide_true] at HEQ
          go_wp2_with (go_at_call 49; refine (HEQ.out _ (Below.refl _ _)).mono ?_; rintro e V ⟨rfl, rfl⟩)
          go_meet
          exact ⟨Ov', a', false, rfl, HI1.out, fun _ => HI2.out, by simp⟩
      · have HCC := Lib.hid hcc
        have hdq : co.isSome = true → cn.isSome = true → decide (co.getD [] = cn.getD []) = false := fun h1 h2 => by
          cases co with
          | none => cases h1
          | some a1 => cases cn with
            | none => cases h2
            | some a2 => exact decide_eq_false fun e => hcc (by simpa using e)
        have HDQ := Lib.hid hdq
        clear HSK hcc hdq
        rcases C.kind with ⟨gf, lb, hf, hent, hcall⟩ | ⟨l, hf, hcall⟩
        · have hfv := HFV.out
          rw [hf] at hfv
          subst hfv
          have eC := hent
          obtain ⟨j1, j2, j3⟩ := HNE.out HCC.out
          have HCL := Lib.hid (hcall j1 j2 j3)
          clear HNE hcall hent j1 j2 j3
          cases co with
          | none =>
            cases cn with
            | none => exact absurd rfl (HNN.out rfl)
            | some vn =>
              clear HDQ HEQ HNN
              go_wp2_with fail
              refine HCL.out.mono ?_
              rintro e W2 ⟨O2, rfl, hi2, ho2, hg2⟩
              have HRS2 := Lib.hid (HRS.out W2 O2 HCC.out hi2 ho2 hg2)
              clear hi2 ho2 hg2 HRS HCL
              generalize f a' (ck, none, some vn) = y at *
              go_wp2_with fail
              go_meet
              exact ⟨O2, y.1, !y.2, rfl, HRS2.out.1, fun e => HRS2.out.2.1 (by simpa using e), fun e => HRS2.out.2.2 (by simpa using e)⟩
          | some vo =>
            cases cn with
            | none =>
              clear HDQ HEQ HNN
              go_wp2_with fail
              refine HCL.out.mono ?_
              rintro e W2 ⟨O2, rfl, hi2, ho2, hg2⟩
              have HRS2 := Lib.hid (HRS.out W2 O2 HCC.out hi2 ho2 hg2)
              clear hi2 ho2 hg2 HRS HCL
              generalize f a' (ck, some vo, none) = y at *
              go_wp2_with fail
              go_meet
              exact ⟨O2, y.1, !y.2, rfl, HRS2.out.1, fun e => HRS2.out.2.1 (by simpa using e), fun e => HRS2.out.2.2 (by simpa using e)⟩
            | some vn =>
              have hdq := HDQ.out rfl rfl
              rw [hdq] at HEQ
              clear HDQ HNN hdq
              go_wp2_with (go_at_call 49; refine (HEQ.out _ (Below.refl _ _)).mono ?_; rintro e V ⟨rfl, rfl⟩)
              refine HCL.out.mono ?_
              rintro e W2 ⟨O2, rfl, hi2, ho2, hg2⟩
              have HRS2 := Lib.hid (HRS.out W2 O2 HCC.out hi2 ho2 hg2)
              clear hi2 ho2 hg2 HRS HCL
              generalize f a' (ck, some vo, some vn) = y at *
              go_wp2_with fail
              go_meet
              exact ⟨O2, y.1, !y.2, rfl, HRS2.out.1, fun e => HRS2.out.2.1 (by simpa using e), fun e => HRS2.out.2.2 (by simpa using e)⟩
        · have hfv := HFV.out
          rw [hf] at hfv
          subst hfv
          obtain ⟨j1, j2, j3⟩ := HNE.out HCC.out
          have HCL := Lib.hid (hcall j1 j2 j3)
          clear HNE hcall j1 j2 j3
          cases co with
          | none =>
            cases cn with
            | none => exact absurd rfl (HNN.out rfl)
            | some vn =>
              clear HDQ HEQ HNN
              refine (wpIn_wide (n := 9)).1 ?_
              obtain ⟨fn, tmps, assign, body, hy, hR⟩ := HCL.out
              (try dsimp only at hy)
              (try simp only [Option.isSome_none, Option.isSome_some] at hy)
              have HR := Lib.hid hR
              clear hR HCL
              gi_wp2_with (first | (go_simp; (with_reducible refine HR.out.mono ?_); rintro e W2 ⟨O2, rfl, hi2, ho2, hg2⟩; have HRS2 := Lib.hid (HRS.out W2 O2 HCC.out hi2 ho2 hg2); clear hi2 ho2 hg2 HRS) | (refine ⟨trivial, ?_⟩))
              generalize f a' (ck, none, some vn) = y at *
              go_meet
              exact ⟨O2, y.1, !y.2, rfl, HRS2.out.1, fun e => HRS2.out.2.1 (by simpa using e), fun e => HRS2.out.2.2 (by simpa using e)⟩
          | some vo =>
            cases cn with
            | none =>
              clear HDQ HEQ HNN
              refine (wpIn_wide (n := 9)).1 ?_
              obtain ⟨fn, tmps, assign, body, hy, hR⟩ := HCL.out
              (try dsimp only at hy)
              (try simp only [Option.isSome_none, Option.isSome_some] at hy)
              have HR := Lib.hid hR
              clear hR HCL
              gi_wp2_with (first | (go_simp; (with_reducible refine HR.out.mono ?_); rintro e W2 ⟨O2, rfl, hi2, ho2, hg2⟩; have HRS2 := Lib.hid (HRS.out W2 O2 HCC.out hi2 ho2 hg2); clear hi2 ho2 hg2 HRS) | (refine ⟨trivial, ?_⟩))
              generalize f a' (ck, some vo, none) = y at *
              go_meet
              exact ⟨O2, y.1, !y.2, rfl, HRS2.out.1, fun e => HRS2.out.2.1 (by simpa using e), fun e => HRS2.out.2.2 (by simpa using e)⟩
            | some vn =>
              have hdq := HDQ.out rfl rfl
              rw [hdq] at HEQ
              clear HDQ HNN hdq
              refine (wpIn_wide (n := 9)).1 ?_
              obtain ⟨fn, tmps, assign, body, hy, hR⟩ := HCL.out
              (try dsimp only at hy)
              (try simp only [Option.isSome_none, Option.isSome_some] at hy)
              have HR := Lib.hid hR
              clear hR HCL
              gi_wp2_with (first | (gi_at_call 49; go_loud (refine (callsIn_wide.2 (HEQ.out _ (Below.refl _ _))).mono ?_; rintro e V ⟨rfl, rfl⟩)) | (go_simp; (with_reducible refine HR.out.mono ?_); rintro e W2 ⟨O2, rfl, hi2, ho2, hg2⟩; have HRS2 := Lib.hid (HRS.out W2 O2 HCC.out hi2 ho2 hg2); clear hi2 ho2 hg2 HRS) | (refine ⟨trivial, ?_⟩))
              generalize f a' (ck, some vo, some vn) = y at *
              go_meet
              exact ⟨O2, y.1, !y.2, rfl, HRS2.out.1, fun e => HRS2.out.2.1 (by simpa using e), fun e => HRS2.out.2.2 (by simpa using e)⟩
    case rest =>
    obtain ⟨Ov2, a2, b, rfl, hch, hbf, hbt⟩ := hcut
    have HCH := Lib.hid hch
    have HBF := Lib.hid hbf
    have HBT := Lib.hid hbt
    clear hch hbf hbt HRS HNE HSK HNN HEQ
    cases b with
    | true =>
      have HB2 := Lib.hid (HBT.out rfl)
      clear HBT HBF
      go_wp2
      go_ret
      have hpp := HCH.out.post
      rw [HB2.out]
      exact hpp
    | false =>
      have HB2 := Lib.hid (HBF.out rfl)
      clear HBT HBF
      go_wp2
      go_roundw
      case rel => exact ⟨B1, B2, L1, R1, e1, e2, Ov2, a2, n, rfl, rfl, he1, he2, HLT.out.1, by have := HLT.out; omega, by have := HLT.out; omega, HCH.out, HB2.out.1, HB2.out.2⟩
      case measure => have := HLT.out.2.1; simp [lenV]; omega
end Go.Proofs.Ytgkdggidgaifhaa
