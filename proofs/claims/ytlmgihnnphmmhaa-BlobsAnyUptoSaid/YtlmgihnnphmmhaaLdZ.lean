/- lz's reader: token. -/
import Derived.Test.YtlmgihnnphmmhaaMH
import Derived.Deep.RegionLaw
namespace Go.Proofs.Ytlmgihnnphmmhaa
open Go.RowKit
set_option linter.unusedVariables false
set_option linter.unusedSimpArgs false

/-- append, at a step of a region that draws its order. -/
theorem step_app {ops : Array Oper} {o : Oper} {a : Act} {w : World} {K : Act → World → Prop} {Q : Exit → Act → World → Prop} {E : Prop} (hgd : o.guard = none) (s x : Operand)
    (ho : o.op = .call { callee := .builtin .append, args := #[s, x], argTypes := #[28, 28] }) (B : Nat) (v : Value) (L M : Bytes) (hs : a.eval s = v) (hown : OwB B w v L) (A : Option Addr) (m c : Nat) (hx : a.eval x = .slice A m c)
    (hS : SBy w A m M) (hB : B ≤ w.heap.size) (hlen : L.length + m ≤ 140737488355328) (n' : Nat) (hn' : L.length + m = n')
    (h : ∀ A' c' w', OwB B w' (.slice A' n' c') (L ++ M) → w.grownBy w' v.ownBlock → K (a.put o.dst (.slice A' n' c')) w') :
    if Region.wanted o (yielded ops a.tmps) = true then Oper.wp Try.prog o a w K Q else E := by
  have hw : Region.wanted o (yielded ops a.tmps) = true := by simp [Region.wanted, hgd]
  rw [if_pos hw]
  obtain ⟨v', w', hr, h1, h2, h3⟩ := run_app (c := c) hown hS hB hlen o.type
  obtain ⟨A', c', rfl, _⟩ := h1.form
  have hl : (L ++ M).length = n' := by rw [List.length_append, hS.1, hn']
  rw [hl] at h1 hr
  unfold Oper.wp execOp
  simp only [ho, resolve, invoke, builtin, Sem.run_bind, Sem.run_pure, Result.andThen_ok, List.map_toArray, List.map_cons, List.map_nil, hs, hx, hr]
  exact h A' c' w' h1 h2
def RdE (w0 w : World) (R : Nat) (b out : Bytes) (most : Nat) : Prop := ∃ A A2 c c2 l k, RdAt w0 w R b out most A A2 c c2 l k
def TokPost (w0 : World) (R : Nat) (b out : Bytes) (most : Nat) (e : Ending) (w' : World) : Prop :=
  e = .returned (.int .i64 ((tokB most out b).2.2 : Nat)) ∧ RdE w0 w' R (tokB most out b).2.1 (tokB most out b).1 most
theorem and1_64 (t : Nat) (h : t < 18446744073709551616) : bits .and .u64 (t : Int) 1 = ((t % 2 : Nat) : Int) := by
  have := and64 (a := t) (b := 1) h (by decide)
  rw [show ((1 : Nat) : Int) = 1 by rfl] at this
  rw [this, Nat.and_one_is_mod]

theorem copyB_succ (out : Bytes) (d k : Nat) : copyB out d (k + 1) = copyB out d k ++ [(copyB out d k).getD ((copyB out d k).length - d) 0] := by
  induction k generalizing out with
  | zero => rfl
  | succ k ih =>
    conv => lhs; unfold copyB
    rw [ih]
    rfl
set_option maxRecDepth 100000 in
set_option maxHeartbeats 4000000 in
theorem token_any {w0 w : World} {R : Nat} {b out : Bytes} {most : Nat} (h : RdE w0 w R b out most) :
    Calls Try.prog 105 #[.pointer (some ⟨R, 0, none⟩)] w (TokPost w0 R b out most) := by
  obtain ⟨A, A2, c, c2, l, k, h⟩ := h
  have HN := Lib.hid (next_any h)
  clear h
  have HT : Hid (∀ r, tokB most out b = r → ∀ e w', e = .returned (.int .i64 (r.2.2 : Nat)) → RdE w0 w' R r.2.1 r.1 most → TokPost w0 R b out most e w') := fun r hr e w' h1 h2 => by subst hr; exact ⟨h1, h2⟩
  have ht64 := rdVar_lt b
  have HD : Hid (tokB most out b = tokB most out b) := rfl
  have HD1 := HD.out
  conv at HD1 => rhs; unfold tokB
  clear HD
  unfold NextPost at HN
  generalize hb1 : b.drop (rdVar 0 0 b).2.1 = b1 at *
  generalize rdVar 0 0 b = r at *
  obtain ⟨t, n1, e1⟩ := r
  simp only at HN HD1 ht64
  clear hb1
  go_enter Try.func105, Try.ntmps105
  go_wp2_with fail
  refine HN.out.mono ?_
  rintro _ w1 ⟨rfl, A1, c1, h1⟩
  clear HN
  have H1 := Lib.hid h1
  have HD := Lib.hid HD1
  clear HD1 h1
  by_cases he : e1 = 0
  case neg =>
    have hd := HD.out
    clear HD
    rw [if_pos he] at hd
    have HD := Lib.hid hd
    have k1 : ((e1 : Nat) : Int) ≠ 0 := by omega
    clear hd he
    go_wp2
    go_ret
    exact HT.out _ HD.out _ _ rfl ⟨_, _, _, _, _, _, H1.out⟩
  subst he
  obtain ⟨K, hK⟩ : ∃ K, K = t / 2 := ⟨_, rfl⟩
  have k2 : (t : Int) / 2 = (K : Int) := by omega
  have hd := HD.out
  clear HD
  rw [if_neg (by simp), ← hK] at hd
  by_cases hK0 : K = 0
  · rw [if_pos hK0] at hd
    have HD := Lib.hid hd
    clear hd hK
    rw [hK0] at k2
    have k3 : (t : Int) / 2 = 0 := k2
    clear k2
    go_wp2
    go_ret
    exact HT.out _ HD.out _ _ rfl ⟨_, _, _, _, _, _, H1.out⟩
  rw [if_neg hK0] at hd
  have k4 : ((K : Int) == 0) = false := by simp; omega
  have HK := Lib.hid hK
  have hand := and1_64 t ht64
  by_cases hodd : t % 2 = 1
  · rw [if_pos hodd] at hd
    rw [hodd] at hand
    have hand' : bits .and .u64 (t : Int) 1 = 1 := hand
    clear hand hodd
    have HD := Lib.hid hd
    clear hd hK
    have HN2 := Lib.hid (next_any H1.out)
    have hlo := H1.out.lo
    have hlm := H1.out.lm
    have hd64 := rdVar_lt b1
    unfold NextPost at HN2
    generalize hb2 : b1.drop (rdVar 0 0 b1).2.1 = b2 at *
    generalize rdVar 0 0 b1 = r at *
    obtain ⟨d, n2, e2⟩ := r
    simp only at HN2 HD hd64
    clear hb2 H1
    go_wp2_with fail
    refine HN2.out.mono ?_
    rintro _ w2 ⟨rfl, A3, c3, h2⟩
    have H2 := Lib.hid h2
    clear h2 HN2
    by_cases he : e2 = 0
    case neg =>
      have hd := HD.out
      clear HD
      rw [if_pos he] at hd
      have HD := Lib.hid hd
      have k1 : ((e2 : Nat) : Int) ≠ 0 := by omega
      clear hd he
      go_wp2
      go_ret
      exact HT.out _ HD.out _ _ rfl ⟨_, _, _, _, _, _, H2.out⟩
    subst he
    have hd := HD.out
    clear HD
    rw [if_neg (by simp)] at hd
    have r1 := H2.out.r1
    have hlt := H2.out.lt
    have kl := w64_of (n := out.length) (by omega)
    by_cases hd0 : d = 0
    · rw [if_pos (.inl hd0)] at hd
      have HD := Lib.hid hd
      subst hd0
      clear hd
      go_wp2
      go_ret
      exact HT.out _ HD.out _ _ rfl ⟨_, _, _, _, _, _, H2.out⟩
    have kd : ((d : Int) == 0) = false := by simp; omega
    by_cases hdl : out.length < d
    · rw [if_pos (.inr hdl)] at hd
      have HD := Lib.hid hd
      clear hd
      have kg : (d : Int) > (out.length : Int) := by omega
      go_wp2
      go_ret
      exact HT.out _ HD.out _ _ rfl ⟨_, _, _, _, _, _, H2.out⟩
    have kg : ¬ (d : Int) > (out.length : Int) := by omega
    rw [if_neg (by omega)] at hd
    obtain ⟨q, hq⟩ : ∃ q, q = most - out.length := ⟨_, rfl⟩
    have k5 : (most : Int) - (out.length : Int) = (q : Int) := by omega
    have k6 := w64_of (n := q) (by omega)
    rw [← hq] at hd
    have r2 := H2.out.r2
    have HQ := Lib.hid hq
    clear hq
    by_cases hbig : q < K
    · rw [if_pos hbig] at hd
      have HD := Lib.hid hd
      clear hd
      have k7 : decide ((K : Int) > (q : Int)) = true := by simp; omega
      have HW : Hid (∀ m, RdE w0 (w2.drewN m) R b2 out most) := fun m => ⟨_, _, _, _, _, _, H2.out.alloc (below_drewN (Below.refl _ _) m)⟩
      go_upto_region 14 with (fail)
      go_quiet (fail)
      go_wp2
      go_ret
      exact HT.out _ HD.out _ _ rfl (HW.out _)
    rw [if_neg hbig] at hd
    have HD := Lib.hid hd
    clear hd
    have k7 : decide ((K : Int) > (q : Int)) = false := by simp; omega
    have k7' : decide (q < K) = false := by simp; omega
    have k10 : IntKind.i64.wrap (K : Int) = (K : Int) := IntWalk.i64_in _ (by omega)
    have r4 := H2.out.r4
    have z4 := H2.out.z 4
    have HW : Hid (∀ m x, RdE w0 ((w2.drewN m).setCell ⟨R, 4, none⟩ (.int .i64 x)) R b2 out most) := fun m x => ⟨_, _, _, _, _, _, (H2.out.alloc (below_drewN (Below.refl _ _) m)).set4 x⟩
    clear H2
    go_upto_region 14 with (fail)
    go_quiet (fail)
    go_upto_region 18 with (fail)
    refine wp_forget (fun W => RdE w0 W R b2 out most) (HW.out _ _) ?_
    clear HW r1 r2 r4 z4 hlt
    intro w3 h3
    have H3 := Lib.hid h3
    clear h3
    go_wp2
    go_loopw [68] (fun i wr => ∃ j : Nat, j ≤ K ∧ i = .int .u64 j ∧ RdE w0 wr R b2 (copyB out d j) most) (fun i _ => K - (intOf i).toNat)
    case atStart => exact ⟨0, Nat.zero_le _, rfl, H3.out⟩
    case round =>
      obtain ⟨j, hj, rfl, A4, A5, c4, c5, l4, l5, h4⟩ := hrel
      clear H3
      by_cases hjK : j < K
      · obtain ⟨M, hM⟩ : ∃ M, M = copyB out d j := ⟨_, rfl⟩
        have hMl : M.length = out.length + j := by rw [hM, copyB_length]
        have HM : Hid (copyB out d (j + 1) = M ++ [M.getD (M.length - d) 0]) := by rw [hM]; exact copyB_succ _ _ _
        rw [← hM] at h4
        clear hM
        have hpos : 0 < M.length := by omega
        obtain ⟨g, o, e5, hg, hcell⟩ := h4.ow.part.2.2.2 hpos
        subst e5
        obtain ⟨p, hp⟩ : ∃ p, p = M.length - d := ⟨_, rfl⟩
        have hpl : p < M.length := by omega
        have hcp := hcell p hpl
        have hrg : R < wr.heap.size := h4.lt
        have r1 := h4.r1
        have z1 := h4.z 1
        have i1 : IntKind.i64.wrap (d : Int) = (d : Int) := IntWalk.i64_in _ (by omega)
        have i2 : IntKind.i64.wrap ((M.length : Int) - (d : Int)) = (p : Int) := by rw [IntWalk.i64_in _ (by omega)]; omega
        have i3 : (p : Int) < (M.length : Int) := by omega
        have i4 : 0 ≤ (p : Int) := by omega
        have hb8 := at8_lt M p
        have hbp : b8 (at8 M p) = M.getD (M.length - d) 0 := by rw [b8_at8, hp]
        have HO : Hid (OwB (R + 1) wr (.slice (some ⟨g, o, none⟩) M.length c5) M) := h4.ow
        have hRn : ¬ Value.ownBlock (.slice (some ⟨g, o, none⟩) M.length c5) = some R := fun e => by have := (h4.ow.lt R e).1; omega
        have hlen : (M ++ [b8 (at8 M p)]).length = M.length + 1 := by simp
        have HE : Hid (∀ w2 w3 A3 c3, Below wr.heap.size wr w2 → OwB (R + 1) w3 (.slice A3 (M.length + 1) c3) (M ++ [b8 (at8 M p)]) → Off (fun g' => Value.ownBlock (.slice (some ⟨g, o, none⟩) M.length c5) = some g') w2 w3 → RdE w0 (w3.setCell ⟨R, 1, none⟩ (.slice A3 (M.length + 1) c3)) R b2 (copyB out d (j + 1)) most) := fun w2 w3 A3 c3 hw2 h3 h5 => by
          have := (h4.alloc hw2).setOut (out' := M ++ [b8 (at8 M p)]) (A' := A3) (c' := c3) h5 (by rw [hlen]; exact h3) (by rw [hlen]; omega)
          rw [hlen] at this
          rw [HM.out, ← hbp]
          exact ⟨_, _, _, _, _, _, this⟩
        have HR : Hid (∀ w2 w3, Below wr.heap.size wr w2 → Off (fun g' => Value.ownBlock (.slice (some ⟨g, o, none⟩) M.length c5) = some g') w2 w3 → w3.cell? ⟨R, 1, none⟩ = some (.slice (some ⟨g, o, none⟩) M.length c5) ∧ w3.frozen? ⟨R, 1, none⟩ = false) := fun w2 w3 hw2 h5 =>
          ⟨((h5.cell (p := ⟨R, 1, none⟩) (Nat.lt_of_lt_of_le hrg hw2.size) hRn).trans (hw2.cell (p := ⟨R, 1, none⟩) hrg)).trans r1, ((h5.frozen (p := ⟨R, 1, none⟩) (Nat.lt_of_lt_of_le hrg hw2.size) hRn).trans (hw2.frozen (p := ⟨R, 1, none⟩) hrg)).trans z1⟩
        have HB : Hid (∀ o, Below wr.heap.size wr ((wr.alloc o).drew)) := fun o => ((Below.refl _ _).alloc (Nat.le_refl _) o).drew
        have hm20 : M.length ≤ 2 ^ 20 := by omega
        clear h4 hcell HM hRn hlen hbp hp hMl
        go_wp2
        go_region_law ((refine step_app (by rfl) _ _ (by rfl) (R + 1) (.slice (some ⟨g, o, none⟩) M.length c5) M [b8 (at8 M p)] (by rfl) ((HO.out.alloc _).drew) (some ⟨wr.heap.size, 0, none⟩) 1 1 (by rfl) ((SBy.one wr hb8 _).drew) (by simp; omega) (by omega) (M.length + 1) rfl ?_; intro A3 c3 w3 h3 hg3; have hr3 := (HR.out _ w3 (HB.out _) (grown_off hg3)).1; have hz3 := (HR.out _ w3 (HB.out _) (grown_off hg3)).2; have HE3 := Lib.hid (HE.out _ w3 A3 c3 (HB.out _) h3 (grown_off hg3))))
        all_goals
          go_upto_region 21 with (fail)
          refine wp_forget (fun W => RdE w0 W R b2 (copyB out d (j + 1)) most) HE3.out ?_
          clear HE3 HE HO HR HB hr3 hz3 hcp r1 z1
          intro w4 h4
          have H4 := Lib.hid h4
          clear h4
          go_wp2
          go_roundw
          case rel => exact ⟨j + 1, by omega, by go_num, H4.out⟩
          case measure => simp [intOf]; omega
      · obtain rfl : j = K := by omega
        have HE : Hid (RdE w0 wr R b2 (copyB out d j) most) := ⟨_, _, _, _, _, _, h4⟩
        clear h4
        go_wp2
        go_ret
        exact HT.out _ HD.out _ _ rfl HE.out
  · rw [if_neg hodd] at hd
    rw [show t % 2 = 0 by omega] at hand
    have hand' : bits .and .u64 (t : Int) 1 = 0 := hand
    clear hand hodd
    have hlo := H1.out.lo
    have hlm := H1.out.lm
    obtain ⟨q, hq⟩ : ∃ q, q = most - out.length := ⟨_, rfl⟩
    have k5 : (most : Int) - (out.length : Int) = (q : Int) := by omega
    have k6 := w64_of (n := q) (by omega)
    rw [← hq] at hd
    have r1 := H1.out.r1
    have r2 := H1.out.r2
    have hlt := H1.out.lt
    have HQ := Lib.hid hq
    clear hq
    by_cases hbig : q < K
    · rw [if_pos hbig] at hd
      have HD := Lib.hid hd
      clear hd hK
      have k7 : decide ((K : Int) > (q : Int)) = true := by simp; omega
      have HW : Hid (∀ m, RdE w0 (w1.drewN m) R b1 out most) := fun m => ⟨_, _, _, _, _, _, H1.out.alloc (below_drewN (Below.refl _ _) m)⟩
      go_upto_region 14 with (fail)
      go_quiet (fail)
      go_wp2
      go_ret
      exact HT.out _ HD.out _ _ rfl (HW.out _)
    rw [if_neg hbig] at hd
    have k7 : decide ((K : Int) > (q : Int)) = false := by simp; omega
    have k7' : decide (q < K) = false := by simp; omega
    have hlb := H1.out.lb
    have r0 := H1.out.r0
    have k8 := w64_of (n := b1.length) (by omega)
    by_cases hsh : b1.length < K
    · rw [if_pos hsh] at hd
      have HD := Lib.hid hd
      clear hd hK
      have k9 : ((K : Int) > (b1.length : Int)) := by omega
      have HW : Hid (∀ m, RdE w0 (w1.drewN m) R b1 out most) := fun m => ⟨_, _, _, _, _, _, H1.out.alloc (below_drewN (Below.refl _ _) m)⟩
      go_upto_region 14 with (fail)
      go_quiet (fail)
      go_wp2
      go_ret
      exact HT.out _ HD.out _ _ rfl (HW.out _)
    rw [if_neg hsh] at hd
    have HD := Lib.hid hd
    clear hd hK
    have k9 : ¬ ((K : Int) > (b1.length : Int)) := by omega
    have r3 := H1.out.r3
    have z3 := H1.out.z 3
    obtain ⟨g, o, rfl, hg, _⟩ := H1.out.sb.2 (by omega)
    have hnc := H1.out.nc
    have k10 : IntKind.i64.wrap (K : Int) = (K : Int) := IntWalk.i64_in _ (by omega)
    go_upto_region 14 with (fail)
    go_quiet (fail)
    have HW : Hid (∀ m x, RdAt w0 ((w1.drewN m).setCell ⟨R, 3, none⟩ (.int .i64 x)) R b1 out most (some ⟨g, o, none⟩) A2 c1 c2 x k) := fun m x => (H1.out.alloc (below_drewN (Below.refl _ _) m)).set3 x
    go_upto_region 26 with (fail)
    refine wp_forget (fun W => RdAt w0 W R b1 out most (some ⟨g, o, none⟩) A2 c1 c2 (wrap64 (l + K)) k) (HW.out _ _) ?_
    clear HW H1 r0 r1 r2 r3 z3 hlt hg
    intro w2 h2
    have H2 := Lib.hid h2
    have r0 := h2.r0
    have r1 := h2.r1
    have hlt := h2.lt
    have i1 : (K : Int) ≤ (c1 : Int) := by omega
    have i2 : (0 : Int) ≤ (K : Int) := by omega
    have hlen : (out ++ b1.take K).length = out.length + K := by rw [List.length_append, List.length_take]; omega
    have HE : Hid (∀ w3 A3 c3, OwB (R + 1) w3 (.slice A3 (out.length + K) c3) (out ++ b1.take K) → Off (fun g => Value.ownBlock (.slice A2 out.length c2) = some g) w2.drew w3 → RdAt w0 (w3.setCell ⟨R, 1, none⟩ (.slice A3 (out.length + K) c3)) R b1 (out ++ b1.take K) most (some ⟨g, o, none⟩) A3 c1 c3 (wrap64 (l + K)) k) := fun w3 A3 c3 h3 h4 => by
      have := (h2.alloc (Below.refl _ _).drew).setOut (out' := out ++ b1.take K) (A' := A3) (c' := c3) h4 (by rw [hlen]; exact h3) (by rw [hlen]; have := HQ.out; omega)
      rw [hlen] at this
      exact this
    have HS : Hid (SBy w2.drew (some ⟨g, o, none⟩) K (b1.take K)) := (h2.sb.part 0 K (by omega) (by omega)).drew
    have HO : Hid (OwB (R + 1) w2.drew (.slice A2 out.length c2) out) := h2.ow
    have HR : Hid (∀ w3, Off (fun g => Value.ownBlock (.slice A2 out.length c2) = some g) w2.drew w3 → w3.cell? ⟨R, 1, none⟩ = some (.slice A2 out.length c2) ∧ w3.frozen? ⟨R, 1, none⟩ = false) := fun w3 h4 => by
      have hR : ¬ Value.ownBlock (.slice A2 out.length c2) = some R := fun e => by have := (h2.ow.lt R e).1; omega
      exact ⟨(h4.cell (p := ⟨R, 1, none⟩) h2.lt hR).trans h2.r1, (h4.frozen (p := ⟨R, 1, none⟩) h2.lt hR).trans (h2.z 1)⟩
    have hsz : R + 1 ≤ w2.drew.heap.size := by show R + 1 ≤ w2.heap.size; omega
    have HR0 : Hid (∀ w3, Off (fun g => Value.ownBlock (.slice A2 out.length c2) = some g) w2.drew w3 → w3.cell? ⟨R, 0, none⟩ = some (.slice (some ⟨g, o, none⟩) b1.length c1)) := fun w3 h4 => by
      have hR : ¬ Value.ownBlock (.slice A2 out.length c2) = some R := fun e => by have := (h2.ow.lt R e).1; omega
      exact (h4.cell (p := ⟨R, 0, none⟩) h2.lt hR).trans h2.r0
    clear h2 H2
    go_region_law ((refine step_app (by rfl) _ _ (by rfl) (R + 1) (.slice A2 out.length c2) out (b1.take K) (by rfl) HO.out (some ⟨g, o, none⟩) K K (by rfl) HS.out hsz (by omega) (out.length + K) rfl ?_; intro A3 c3 w3 h3 hg3; have hr3 := (HR.out w3 (grown_off hg3)).1; have hz3 := (HR.out w3 (grown_off hg3)).2; have hr0 := HR0.out w3 (grown_off hg3); have HE3 := Lib.hid (HE.out w3 A3 c3 h3 (grown_off hg3))))
    all_goals
      clear HR0 r0 r1 hlt hsz
      go_upto_region 27 with (fail)
      refine wp_forget (fun W => RdAt w0 W R b1 (out ++ b1.take K) most (some ⟨g, o, none⟩) A3 c1 c3 (wrap64 (l + K)) k) HE3.out ?_
      clear HE3 HE HO HS HR hr3 hz3 hr0
      intro w4 h4
      have r0 := h4.r0
      have z0 := h4.z 0
      have i3 : (K : Int) ≤ (b1.length : Int) := by omega
      have HX : Hid (RdE w0 (w4.setCell ⟨R, 0, none⟩ (.slice (some ⟨g, o + K, none⟩) (b1.length - K) (c1 - K))) R (b1.drop K) (out ++ b1.take K) most) := by
        have hp := h4.sb.part K b1.length (by omega) (Nat.le_refl _)
        rw [List.take_of_length_le (by simp)] at hp
        have := h4.setB (b' := b1.drop K) (A' := some ⟨g, o + K, none⟩) (c' := c1 - K) (by rw [List.length_drop]; exact hp) (by rw [List.length_drop]; omega) (fun g' o' e => by cases e; exact h4.far _ _ rfl) (by rw [List.length_drop]; omega)
        rw [List.length_drop] at this
        exact ⟨_, _, _, _, _, _, this⟩
      have HX2 : Hid (c1 = K → RdE w0 (w4.setCell ⟨R, 0, none⟩ (.slice (some ⟨g, o, none⟩) (b1.length - K) 0)) R (b1.drop K) (out ++ b1.take K) most) := by
        intro hcn
        have hbd : b1.drop K = [] := List.drop_eq_nil_of_le (by omega)
        have := h4.setB (b' := []) (A' := some ⟨g, o, none⟩) (c' := 0) (SBy.nil _ _) (by simp) (fun g' o' e => by cases e; exact h4.far _ _ rfl) (by simp)
        rw [hbd, show b1.length - K = 0 by omega]
        exact ⟨_, _, _, _, _, _, this⟩
      clear h4
      go_wp2
      · go_ret
        exact HT.out _ HD.out _ _ rfl (HX2.out (by assumption))
      · go_ret
        exact HT.out _ HD.out _ _ rfl HX.out
end Go.Proofs.Ytlmgihnnphmmhaa
