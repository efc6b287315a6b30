/- radix: Get. -/
import Derived.Test.YtgkdggidgaifhaaOc
namespace Go.Proofs.Ytgkdggidgaifhaa
open Go.RowKit
set_option linter.unusedVariables false
set_option linter.unusedSimpArgs false

theorem eq_root (a b : Int) (w : World) : (Op.equalIn 10000 30 (.agg #[.int .i64 a, .int .i64 b]) (.agg #[.int .i64 0, .int .i64 0])).run Try.prog w = .ok (decide ((a, b) = ((0, 0) : Int × Int))) w := by
  have h : (Op.equalIn 10000 30 (.agg #[.int .i64 a, .int .i64 b]) (.agg #[.int .i64 0, .int .i64 0])).run Try.prog w = .ok (a == 0 && b == 0) w := by
    rw [run_equalIn_agg (P := Try.prog) w 9999 30 _ _ (by kernel_rfl) (by kernel_rfl)]
    cases h1 : a == 0 <;> cases h2 : b == 0 <;> simp [go_sem, h1, h2] <;> simp_all
  have h2 : (a == 0 && b == 0) = decide ((a, b) = ((0, 0) : Int × Int)) := by
    rw [Bool.eq_iff_iff]
    simp [Prod.ext_iff]
  rw [h, h2]
theorem tgetF_some {σ : Type} {K : SnkF σ} {s s1 : σ} {r : Int × Int} {l q : Nat} {x : RN} {er : Int} (h : tgetF K s r l q = (s1, some x, er)) : er = 0 ∧ x.Ok ∧ l ≤ x.level ∧ frontN x.some l = q ∧ s1 = (K.get s r).1 ∧ (K.get s r).2.2 = 0 := by
  unfold tgetF at h
  split at h
  · cases h
  · rename_i h0
    split at h
    · cases h
    · rename_i y hy
      split at h
      · rename_i hu
        cases h
        have := of_decide_eq_true hu
        exact ⟨rfl, parseB_ok hy, this.1, this.2, rfl, by simpa using h0⟩
      · cases h
section
variable {σ : Type} {K : SnkF σ} {M : Snk K} {w : World} {T : Nat} {O : Nat → Prop} {s s1 : σ} {p er : Int} {r : Int × Int} {l q : Nat}
def TgErr (M : Snk K) (w : World) (T : Nat) (O : Nat → Prop) (s1 : σ) (p er : Int) (e : Ending) (w' : World) : Prop := e = .returned (.tuple #[.pointer none, .int .i64 er]) ∧ er ≠ 0 ∧ TrAt M w' T O s1 p ∧ Off O w w'
def TgOk (M : Snk K) (w : World) (T : Nat) (O : Nat → Prop) (s1 : σ) (p : Int) (x : RN) (e : Ending) (w' : World) : Prop := ∃ X vv vl, e = .returned (.tuple #[.pointer (some ⟨X, 0, none⟩), .int .i64 0]) ∧ TrAt M w' T O s1 p ∧ Off O w w' ∧ NdAt w' X x vv vl ∧ w.heap.size ≤ X ∧ ValsIn (fun b => w.heap.size ≤ b ∧ b ≠ X) vv vl
theorem tget_err (h : TrAt M w T O s p) (hl : l ≤ 7) (hq : q < 9223372036854775808) (he : tgetF K s r l q = (s1, none, er)) : Calls Try.prog 37 #[.pointer (some ⟨T, 0, none⟩), addrV r, .int .i64 (l : Nat), .int .i64 (q : Nat)] w (TgErr M w T O s1 p er) :=
  (tget_any h r hl hq).mono fun e w' hp => by
    unfold TgPost at hp
    rw [he] at hp
    exact ⟨hp.2.2.2, hp.2.2.1, hp.1, hp.2.1⟩
theorem tget_ok {x : RN} (h : TrAt M w T O s p) (hl : l ≤ 7) (hq : q < 9223372036854775808) (he : tgetF K s r l q = (s1, some x, er)) : Calls Try.prog 37 #[.pointer (some ⟨T, 0, none⟩), addrV r, .int .i64 (l : Nat), .int .i64 (q : Nat)] w (TgOk M w T O s1 p x) :=
  (tget_any h r hl hq).mono fun e w' hp => by
    unfold TgPost at hp
    rw [he] at hp
    obtain ⟨h1, h2, X, vv, vl, h3, h4, h5⟩ := hp
    exact ⟨X, vv, vl, h4, h1, h2, h5⟩
end
theorem digit_up {V : World} {g : Up V} {k l : Nat} (hk : k < 9223372036854775808) (hl : l ≤ 5) : Calls Try.prog 39 #[.int .i64 (k : Nat), .int .i64 (l : Nat)] g.world fun e w' => e = .returned (.int .i64 (digN k l : Nat)) ∧ ∃ g' : Up V, w' = g'.world :=
  (digit_any g.world hk hl).mono fun e w' h => ⟨h.1, g, h.2⟩
theorem front_up {V : World} {g : Up V} {k l : Nat} (hk : k < 9223372036854775808) (hl : l ≤ 6) : Calls Try.prog 38 #[.int .i64 (k : Nat), .int .i64 (l : Nat)] g.world fun e w' => e = .returned (.int .i64 (frontN k l : Nat)) ∧ ∃ g' : Up V, w' = g'.world :=
  (front_any g.world hk hl).mono fun e w' h => ⟨h.1, g, h.2⟩
/-- A box with an address. -/
def BoxA (w : World) (g : Nat) (r : Int × Int) : Prop := w.cell? ⟨g, 0, none⟩ = some (.int .i64 r.1) ∧ w.cell? ⟨g, 1, none⟩ = some (.int .i64 r.2) ∧ ∀ k, w.frozen? ⟨g, k, none⟩ = false
theorem BoxA.lt {w : World} {g : Nat} {r : Int × Int} (h : BoxA w g r) : g < w.heap.size := lt_of_cell h.1
theorem BoxA.off {S : Nat → Prop} {w w' : World} {g : Nat} {r : Int × Int} (h : BoxA w g r) (ho : Off S w w') (hs : ¬ S g) : BoxA w' g r :=
  ⟨(ho.cell (p := ⟨g, 0, none⟩) h.lt hs).trans h.1, (ho.cell (p := ⟨g, 1, none⟩) h.lt hs).trans h.2.1, fun k => (ho.frozen (p := ⟨g, k, none⟩) h.lt hs).trans (h.2.2 k)⟩
theorem BoxA.new (w : World) (t : TypeId) (r : Int × Int) : BoxA (w.alloc (.cells #[.int .i64 r.1, .int .i64 r.2] t)) w.heap.size r := by
  refine ⟨?_, ?_, fun k => ?_⟩
  · rw [cell_of_row _ _ _ _ _ _ (heap_alloc_new w _)]; rfl
  · rw [cell_of_row _ _ _ _ _ _ (heap_alloc_new w _)]; rfl
  · unfold World.frozen?
    rw [heap_alloc_new]
    simp
theorem BoxA.set {w : World} {g : Nat} {r : Int × Int} (h : BoxA w g r) (r' : Int × Int) : BoxA ((w.setCell ⟨g, 0, none⟩ (.int .i64 r'.1)).setCell ⟨g, 1, none⟩ (.int .i64 r'.2)) g r' ∧ Off (· = g) w ((w.setCell ⟨g, 0, none⟩ (.int .i64 r'.1)).setCell ⟨g, 1, none⟩ (.int .i64 r'.2)) := by
  obtain ⟨e1, e2⟩ := box2_set2 (v0 := .int .i64 r'.1) (v1 := .int .i64 r'.2) h.1 h.2.1
  exact ⟨⟨e1, e2, fun k => by rw [World.frozen?_setCell, World.frozen?_setCell]; exact h.2.2 k⟩, ((Off.refl (· = g) w).setCell (p := ⟨g, 0, none⟩) rfl _).setCell (p := ⟨g, 1, none⟩) rfl _⟩
structure LkAt {σ : Type} {K : SnkF σ} (M : Snk K) (w wr : World) (T : Nat) (O : Nat → Prop) (s : σ) (p : Int) (r : Int × Int) : Prop where
  tr : TrAt M wr T O s p
  off : Off O w wr
  box : BoxA wr w.heap.size r
  hO : ∀ k, O k → k < w.heap.size
  hT : T < w.heap.size
theorem LkAt.step {σ : Type} {K : SnkF σ} {M : Snk K} {w wr : World} {T : Nat} {O : Nat → Prop} {s : σ} {p : Int} {r : Int × Int} (h1 : TrAt M wr T O s p) (h2 : Off O w wr) (h3 : BoxA wr w.heap.size r) (hO : ∀ k, O k → k < w.heap.size) (hT : T < w.heap.size) (r' : Int × Int) :
    LkAt M w ((wr.setCell ⟨w.heap.size, 0, none⟩ (.int .i64 r'.1)).setCell ⟨w.heap.size, 1, none⟩ (.int .i64 r'.2)).drew T O s p r' := by
  obtain ⟨e1, e2⟩ := h3.set r'
  refine ⟨(h1.off e2 (fun k e hk => ?_) (fun e => ?_)).drew, (h2.late e2 fun i hi e => ?_).drew, e1.off (S := fun _ => False) (Off.refl _ _).drew id, hO, hT⟩
  · have := hO _ hk; omega
  · omega
  · omega
/-- Get has answered. -/
def GtPost {σ : Type} {K : SnkF σ} (M : Snk K) (w : World) (T : Nat) (O : Nat → Prop) (p : Int) (y : σ × Bytes × Bool × Int) (e : Ending) (w' : World) : Prop :=
  ∃ v, e = .returned (.tuple #[v, .bool y.2.2.1, .int .i64 y.2.2.2]) ∧ TrAt M w' T O y.1 p ∧ Off O w w' ∧ SlB w' v y.2.1 ∧ ∀ b o n c, v = .slice (some ⟨b, o, none⟩) n c → w.heap.size ≤ b
theorem gt_none {σ : Type} {K : SnkF σ} {M : Snk K} {w w' : World} {T : Nat} {O : Nat → Prop} {p er : Int} {y : σ × Bytes × Bool × Int} {s : σ} (hy : y = (s, [], false, er)) (h1 : TrAt M w' T O s p) (h2 : Off O w w') :
    GtPost M w T O p y (.returned (.tuple #[.slice none 0 0, .bool false, .int .i64 er])) w' := by
  subst hy
  exact ⟨_, rfl, h1, h2, slB_nil _, fun b o n c e => by cases e⟩
theorem gt_some {σ : Type} {K : SnkF σ} {M : Snk K} {w w' : World} {T : Nat} {O : Nat → Prop} {p : Int} {y : σ × Bytes × Bool × Int} {s : σ} {v : Value} {L : Bytes} (hy : y = (s, L, true, 0)) (h1 : TrAt M w' T O s p) (h2 : Off O w w') (h3 : SlB w' v L)
    (h4 : ∀ b o n c, v = .slice (some ⟨b, o, none⟩) n c → w.heap.size ≤ b) : GtPost M w T O p y (.returned (.tuple #[v, .bool true, .int .i64 0])) w' := by
  subst hy
  exact ⟨_, rfl, h1, h2, h3, h4⟩
theorem front_le (k l : Nat) : frontN k l ≤ k := Nat.div_le_self _ _
theorem pack_front {k l l' : Nat} (h : l ≤ l') (h' : l' ≤ 6) : frontN k l = frontN k l' / 16 ^ (l' - l) := by
  unfold frontN
  rw [Nat.div_div_eq_div_mul, ← Nat.pow_add]
  congr 2
  omega
set_option maxRecDepth 100000 in
set_option maxHeartbeats 4000000 in
theorem look_any {σ : Type} {K : SnkF σ} {M : Snk K} {w : World} {T : Nat} {O : Nat → Prop} {s : σ} {p : Int} (h : TrAt M w T O s p) (r : Int × Int) {key : Nat} (hk : key < 16777216) :
    Calls Try.prog 23 #[.pointer (some ⟨T, 0, none⟩), addrV r, .int .i64 (key : Nat)] w (GtPost M w T O p (lookF K 7 s r 0 0 key)) := by
  have H := Lib.hid h
  have hlt := h.lt
  have hO := fun k hk => M.lt h.at_ (k := k) hk
  have HOL := Lib.hid hO
  clear h hO
  have hrt : decide (0 ≤ (key : Int) ∧ (key : Int) < 16777216) = true := by simp; omega
  unfold addrV
  go_enter Try.func23, Try.ntmps23
  go_wp2_with (go_at_call 35; refine (right_any _ _).mono ?_; rintro e w1 ⟨rfl, rfl⟩; rw [hrt])
  clear hrt
  go_loopw [9, 10] (fun a b wr => ∃ (l q n : Nat) (s' : σ) (r' : Int × Int), a = .int .i64 (l : Nat) ∧ b = .int .i64 (q : Nat) ∧ l ≤ 6 ∧ q ≤ key ∧ 7 ≤ n + l ∧ LkAt M w wr T O s' p r' ∧ lookF K n s' r' l q key = lookF K 7 s r 0 0 key) (fun a _ _ => 7 - (intOf a).toNat)
  case atStart => exact ⟨0, 0, 7, s, r, rfl, rfl, by omega, by omega, by omega, ⟨H.out.up ((Below.refl _ _).alloc (Nat.le_refl _) _), Off.of_below ((Below.refl _ _).alloc (Nat.le_refl _) _), BoxA.new _ _ _, HOL.out, hlt⟩, rfl⟩
  case round =>
    obtain ⟨l, q, n, s', ⟨ra, rb⟩, rfl, rfl, hl, hq, hn, hat, hlk⟩ := hrel
    have HAT := Lib.hid hat
    have hf0 := hat.box.2.2 0
    have hf1 := hat.box.2.2 1
    obtain ⟨c0, c1, cf⟩ := hat.box
    simp only at c0 c1
    have lw := hat.box.lt
    clear hat cf H
    obtain ⟨n, rfl⟩ : ∃ m, n = m + 1 := ⟨n - 1, by omega⟩
    rw [lookF] at hlk
    by_cases h0 : (ra, rb) = ((0, 0) : Int × Int)
    · have e0 := eq_root ra rb
      simp only [h0] at e0
      rw [if_pos h0] at hlk
      have HLK := Lib.hid hlk.symm
      clear hlk
      go_wp2
      go_ret3
      exact gt_none HLK.out HAT.out.tr HAT.out.off
    · have e0 := eq_root ra rb
      simp only [h0, decide_false] at e0
      rw [if_neg h0] at hlk
      have HLK := Lib.hid hlk
      clear hlk h0
      go_upto_region 5 with (fail)
      clear e0
      obtain ⟨y, hy⟩ : ∃ y, tgetF K s' (ra, rb) l q = y := ⟨_, rfl⟩
      obtain ⟨s1, ox, er⟩ := y
      rw [hy] at HLK
      cases ox with
      | none =>
        have HG := Lib.hid (tget_err HAT.out.tr (by omega) (by omega) hy)
        unfold addrV at HG
        clear hy
        go_wp2_with fail
        refine HG.out.mono ?_
        rintro e w1 ⟨rfl, her, htr, hof⟩
        have HT := Lib.hid htr
        have HO := Lib.hid hof
        clear htr hof HG
        go_wp2
        go_ret3
        exact gt_none HLK.out.symm HT.out (HAT.out.off.trans HO.out)
      | some x =>
        obtain ⟨rfl, hok, hlx, hfx, _, _⟩ := tgetF_some hy
        have HG := Lib.hid (tget_ok HAT.out.tr (by omega) (by omega) hy)
        unfold addrV at HG
        clear hy
        go_wp2_with fail
        refine HG.out.mono ?_
        rintro e V ⟨X, vv, vl, rfl, htr, hof, hnd, hX, hvi⟩
        have hl6 := hok.lv
        have HT := Lib.hid htr
        have HO := Lib.hid hof
        have HN := Lib.hid hnd
        have HV := Lib.hid hvi
        have HK := Lib.hid hok
        have q0 := hnd.level
        have q1 := hnd.prefix_
        have q2 := hnd.key
        have q3 := hnd.val
        have lX := hnd.lt
        have lB : w.heap.size < V.heap.size := Nat.lt_of_lt_of_le lw hof.size
        have HBX : Hid (BoxA V w.heap.size (ra, rb)) := Lib.hid (HAT.out.box.off hof (fun e => by have := HOL.out _ e; omega))
        clear htr hof hnd hvi hok HG c0 c1 hf0 hf1 hfx
        obtain ⟨lv, hlv⟩ : ∃ lv, lv = x.level := ⟨_, rfl⟩
        rw [← hlv] at q0 hl6 hlx
        have HLV := Lib.hid hlv
        by_cases h6 : lv = 6
        · have hb6 : ((lv : Int) == 6) = true := by simp; omega
          have HL2 := HLK
          clear HLK
          simp only [← HLV.out, h6, if_true] at HL2
          clear hlv
          by_cases hke : x.key = key
          · have hb7 : ((x.key : Int) != (key : Int)) = false := by simp; omega
            rw [if_pos hke] at HL2
            clear hke h6
            go_wp2
            go_ret3
            exact gt_some HL2.out.symm HT.out (HAT.out.off.trans HO.out) HN.out.v (fun b o n c e => Nat.le_trans HAT.out.off.size (HV.out.2 b o n c e).1)
          · have hb7 : ((x.key : Int) != (key : Int)) = true := by simp; omega
            rw [if_neg hke] at HL2
            clear hke h6
            go_wp2
            go_ret3
            exact gt_none HL2.out.symm HT.out (HAT.out.off.trans HO.out)
        · have hb6 : ((lv : Int) == 6) = false := by simp; omega
          have HL2 := HLK
          clear HLK
          simp only [← HLV.out, h6, if_false] at HL2
          clear hlv
          have hl5 : lv ≤ 5 := by omega
          obtain ⟨d, hd⟩ : ∃ d, digN key lv = d := ⟨_, rfl⟩
          obtain ⟨f, hf⟩ : ∃ f, frontN key lv = f := ⟨_, rfl⟩
          have hd16 : d < 16 := by rw [← hd]; exact digN_lt _ _
          have hdI : (d : Int) < 16 := by omega
          have HDI : Hid (∀ g : Up V, Calls Try.prog 39 #[.int .i64 (key : Nat), .int .i64 (lv : Nat)] g.world fun e w' => e = .returned (.int .i64 (d : Nat)) ∧ ∃ g' : Up V, w' = g'.world) := Lib.hid (fun g => by rw [← hd]; exact digit_up (by omega) (by omega))
          have HFR : Hid (∀ g : Up V, Calls Try.prog 38 #[.int .i64 (key : Nat), .int .i64 (lv : Nat)] g.world fun e w' => e = .returned (.int .i64 (f : Nat)) ∧ ∃ g' : Up V, w' = g'.world) := Lib.hid (fun g => by rw [← hf]; exact front_up (by omega) (by omega))
          have HF2 : Hid (∀ W : World, Calls Try.prog 38 #[.int .i64 (key : Nat), .int .i64 ((lv : Int) + 1)] W fun e w' => e = .returned (.int .i64 (frontN key (lv + 1) : Nat)) ∧ w' = W) := Lib.hid (fun W => front_any W (l := lv + 1) (by omega) (by omega))
          have HD2 : Hid (∀ W : World, Calls Try.prog 39 #[.int .i64 (key : Nat), .int .i64 (lv : Nat)] W fun e w' => e = .returned (.int .i64 (d : Nat)) ∧ w' = W) := Lib.hid (fun W => by rw [← hd]; exact digit_any W (by omega) (by omega))
          rw [hd, hf] at HL2
          have q4 := HN.out.has hd16
          have q5 := HN.out.vals hd16
          obtain ⟨q6, q7⟩ := HN.out.kid hd16
          have HD := Lib.hid hd
          clear hd hf h6
          by_cases hfp : f = x.prefix_
          case neg =>
            have hb8 : ((f : Int) != (x.prefix_ : Int)) = true := by simp; omega
            have HL3 : Hid ((s1, [], false, 0) = lookF K 7 s r 0 0 key) := by
              have := HL2.out
              rw [if_pos (.inl hfp)] at this
              exact Lib.hid this
            clear HL2 hfp
            go_upto_region 12 with (fail)
            refine wp_region_up (by kernel_rfl) (by kernel_rfl) ?_
            repeat (go_big_quiet_step (first | (go_at_call 38; exact HFR.out _) | (go_at_call 39; exact HDI.out _)))
            refine wpQuiet_nil ?_
            rintro _ ⟨g, rfl⟩
            go_wp2
            go_ret3
            exact gt_none HL3.out.symm (HT.out.up g.h) ((HAT.out.off.trans HO.out).step g.h)
          have hb8 : ((f : Int) != (x.prefix_ : Int)) = false := by simp; omega
          cases hh : x.has d
          · rw [hh] at q4
            have HL3 : Hid ((s1, [], false, 0) = lookF K 7 s r 0 0 key) := by
              have := HL2.out
              rw [if_pos (.inr hh)] at this
              exact Lib.hid this
            clear HL2 hfp hh
            go_upto_region 12 with (fail)
            refine wp_region_up (by kernel_rfl) (by kernel_rfl) ?_
            repeat (go_big_quiet_step (first | (go_at_call 38; exact HFR.out _) | (go_at_call 39; exact HDI.out _)))
            refine wpQuiet_nil ?_
            rintro _ ⟨g, rfl⟩
            go_wp2
            go_ret3
            exact gt_none HL3.out.symm (HT.out.up g.h) ((HAT.out.off.trans HO.out).step g.h)
          · rw [hh] at q4
            have HL3 := HL2.out
            rw [if_neg (by simp [hfp, hh])] at HL3
            have HL4 := Lib.hid HL3
            clear HL2 HL3 hfp hh
            go_upto_region 12 with (fail)
            refine wp_region_up (by kernel_rfl) (by kernel_rfl) ?_
            repeat (go_big_quiet_step (first | (go_at_call 38; exact HFR.out _) | (go_at_call 39; exact HDI.out _)))
            refine wpQuiet_nil ?_
            rintro _ ⟨g, rfl⟩
            by_cases h5 : lv = 5
            · have hb5 : ((lv : Int) == 5) = true := by simp; omega
              have HL5 := HL4.out
              rw [if_pos h5] at HL5
              have HL6 := Lib.hid HL5
              have HD5 : Hid (∀ g : Up V, Calls Try.prog 39 #[.int .i64 (key : Nat), .int .i64 5] g.world fun e w' => e = .returned (.int .i64 (d : Nat)) ∧ ∃ g' : Up V, w' = g'.world) := Lib.hid (fun g => by rw [← HD.out, h5]; exact digit_up (l := 5) (by omega) (by omega))
              have HVL : Hid ((s1, x.vals d, true, 0) = lookF K 7 s r 0 0 key) := Lib.hid (by rw [← HL6.out, ← HD.out, h5])
              clear HL4 HL5 HL6 h5
              go_upto_region 15 with (fail)
              refine wp_region_upW (by kernel_rfl) (by kernel_rfl) ?_
              repeat (go_big_quiet_step (first | (go_at_call 39; exact HD5.out _)))
              refine wpQuiet_nil ?_
              rintro _ ⟨g2, rfl⟩
              go_wp2
              go_ret3
              exact gt_some HVL.out.symm (HT.out.up g2.h) ((HAT.out.off.trans HO.out).step g2.h) ((HN.out.vs d hd16).up g2.h) (fun b o n c e => Nat.le_trans HAT.out.off.size (HV.out.1 d b o n c hd16 e).1)
            · have hb5 : ((lv : Int) == 5) = false := by simp; omega
              have HL5 := HL4.out
              rw [if_neg h5] at HL5
              have HL6 := Lib.hid HL5
              clear HL4 HL5
              have hl4 : lv ≤ 4 := by omega
              clear h5
              go_upto_region 16 with (fail)
              refine wp_forget (fun W => Below V.heap.size V W) g.h ?_
              intro W1 hb1
              have n0 := (hb1.cell (p := ⟨X, 0, none⟩) lX).trans q0
              have n6 := (hb1.cell (p := ⟨X, 2 + d * 2, none⟩) lX).trans q6
              have n7 := (hb1.cell (p := ⟨X, 2 + d * 2 + 1, none⟩) lX).trans q7
              have hb2 := HBX.out.off (Off.of_below (S := fun _ => False) hb1) id
              have r0 := hb2.1
              have r1 := hb2.2.1
              have r2 := hb2.2.2 0
              have r3 := hb2.2.2 1
              simp only at r0 r1
              have HB2 := Lib.hid hb2
              have HB1 := Lib.hid hb1
              have x1 : X ≠ w.heap.size := by have := HAT.out.off.size; have := lw; omega
              have x2 := x1.symm
              clear hb2 hb1 q0 q1 q2 q3 q4 q5 q6 q7
              have hw1 : IntKind.i64.wrap ((lv : Int) + 1) = (lv : Int) + 1 := IntWalk.i64_in _ (by omega)
              go_region_held3 (fun W => W.cell? ⟨X, 0, none⟩ = some (.int .i64 lv) ∧ W.cell? ⟨X, 2 + d * 2, none⟩ = some (.int .i64 (x.kids d).1) ∧ W.cell? ⟨X, 2 + d * 2 + 1, none⟩ = some (.int .i64 (x.kids d).2))
                (first | exact ⟨n0, n6, n7⟩ | go_keep)
                (first | (go_at_call 38; refine (HF2.out _).mono ?_; rintro e w5 ⟨rfl, rfl⟩) | (go_at_call 39; refine (HD2.out _).mono ?_; rintro e w5 ⟨rfl, rfl⟩))
              all_goals
                go_wp2
                go_roundw
                case rel => exact ⟨lv + 1, frontN key (lv + 1), n, s1, x.kids d, by go_num, rfl, by omega, front_le _ _, by omega, LkAt.step (HT.out.up HB1.out) ((HAT.out.off.trans HO.out).step HB1.out) HB2.out HAT.out.hO HAT.out.hT _, by rw [← HL6.out, ← HD.out]⟩
                case measure => simp [intOf]; omega
end Go.Proofs.Ytgkdggidgaifhaa
