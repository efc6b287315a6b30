/- lz's reader: all; lz.Unpack. -/
import Derived.Test.YtlmgihnnphmmhaaLdZ
namespace Go.Proofs.Ytlmgihnnphmmhaa
open Go.RowKit
set_option linter.unusedVariables false
set_option linter.unusedSimpArgs false

theorem RdE.up {w0 w w1 : World} {R : Nat} {b out : Bytes} {most : Nat} (h : RdE w0 w R b out most) (hb : Below w.heap.size w w1) : RdE w0 w1 R b out most := by
  obtain ⟨A, A2, c, c2, l, k, h⟩ := h
  exact ⟨A, A2, c, c2, l, k, h.alloc hb⟩
def AllPost (w0 : World) (R : Nat) (b : Bytes) (most : Nat) (e : Ending) (w' : World) : Prop :=
  e = .returned (.int .i64 ((unpackB most b).2 : Nat)) ∧ ∃ b' out', RdE w0 w' R b' out' most ∧ ((unpackB most b).2 = 0 → out' = (unpackB most b).1)
theorem AllPost.mk {w0 : World} {R : Nat} {b : Bytes} {most : Nat} {r : Bytes × Nat} (hr : unpackB most b = r) {w' : World} {b' out' : Bytes} (h : RdE w0 w' R b' out' most) (ho : r.2 = 0 → out' = r.1) : AllPost w0 R b most (.returned (.int .i64 (r.2 : Nat))) w' := by
  subst hr
  exact ⟨rfl, b', out', h, ho⟩
def leftOf (w : World) (R : Nat) : Nat := match w.cell? ⟨R, 0, none⟩ with
  | some (.slice _ n _) => n
  | _ => 0
theorem leftOf_eq {w0 w : World} {R : Nat} {b out : Bytes} {most : Nat} {A A2 : Option Addr} {c c2 : Nat} {l k : Int} (h : RdAt w0 w R b out most A A2 c c2 l k) : leftOf w R = b.length := by
  unfold leftOf
  rw [h.r0]

set_option maxRecDepth 100000 in
set_option maxHeartbeats 2000000 in
theorem all_any {w0 w : World} {R : Nat} {b : Bytes} {most : Nat} {A : Option Addr} {c : Nat} (h : RdAt w0 w R b [] most A none c 0 0 0) :
    Calls Try.prog 86 #[.pointer (some ⟨R, 0, none⟩)] w (AllPost w0 R b most) := by
  have r0 := h.r0
  have z0 := h.z 0
  have hlb := h.lb
  have hnc := h.nc
  cases b with
  | nil =>
    have HX : Hid (RdE w0 w R [] [] most) := ⟨_, _, _, _, _, _, h⟩
    have HU : Hid (unpackB most [] = ([], 21)) := rfl
    clear h
    go_enter Try.func86, Try.ntmps86
    go_wp2
    go_ret
    exact AllPost.mk HU.out HX.out (fun _ => rfl)
  | cons x b1 =>
    obtain ⟨g, o, rfl, hg, hcell⟩ := h.sb.2 (by simp)
    have hc0 := hcell 0 (by simp)
    have hx : at8 (x :: b1) 0 = x.toNat := by simp [at8]
    rw [hx, Nat.add_zero] at hc0
    have hx256 := UInt8.toNat_lt x
    obtain ⟨y, hy⟩ : ∃ y, y = x.toNat := ⟨_, rfl⟩
    rw [← hy] at hc0 hx256
    have HY := Lib.hid hy
    have hl : (x :: b1).length = b1.length + 1 := rfl
    rw [hl] at r0 hnc hlb
    have HX : Hid (RdE w0 (w.setCell ⟨R, 0, none⟩ (.slice (some ⟨g, o + 1, none⟩) b1.length (c - 1))) R b1 [] most) := by
      have hp := h.sb.part 1 (b1.length + 1) (by omega) (by simp)
      rw [show b1.length + 1 - 1 = b1.length by omega, List.drop_succ_cons, List.drop_zero, List.take_of_length_le (Nat.le_refl _)] at hp
      exact ⟨_, _, _, _, _, _, h.setB (b' := b1) (A' := some ⟨g, o + 1, none⟩) (c' := c - 1) hp (by omega) (fun g' o' e => by cases e; exact h.far _ _ rfl) (by omega)⟩
    have HX2 : Hid (c = 1 → RdE w0 (w.setCell ⟨R, 0, none⟩ (.slice (some ⟨g, o, none⟩) b1.length 0)) R b1 [] most) := by
      intro hcn
      have hb0 : b1 = [] := by
        have : b1.length = 0 := by omega
        simpa using this
      subst hb0
      exact ⟨_, _, _, _, _, _, h.setB (b' := []) (A' := some ⟨g, o, none⟩) (c' := 0) (SBy.nil _ _) (by simp) (fun g' o' e => by cases e; exact h.far _ _ rfl) (by simp)⟩
    clear h hcell hx hy hl
    by_cases hc1 : c = 1
    all_goals
      go_enter Try.func86, Try.ntmps86
      go_upto_region 5 with (fail)
      refine wp_forget (fun W => RdE w0 W R b1 [] most) (by first | exact HX.out | exact HX2.out hc1 | (have := HX2.out hc1; simp_all)) ?_
      clear HX HX2 r0 z0 hc0 hg hnc
      intro w1 h1
      have HU : Hid (unpackB most (x :: b1) = if y = 0 then (if most < b1.length then ([], 24) else (b1, 0)) else if y = 1 then (if (toksB most [] b1).2 = 0 then ((toksB most [] b1).1, 0) else ([], (toksB most [] b1).2)) else ([], 22)) := by rw [HY.out]; exact rfl
      by_cases hy0 : y = 0
      · subst hy0
        have hu := HU.out
        rw [if_pos rfl] at hu
        clear HU
        obtain ⟨A1, A2, c1, c2, l1, k1, h1⟩ := h1
        have r0 := h1.r0
        have r2 := h1.r2
        by_cases hm : most < b1.length
        · rw [if_pos hm] at hu
          have HU := Lib.hid hu
          have HE : Hid (∀ m, RdE w0 (w1.drewN m) R b1 [] most) := fun m => ⟨_, _, _, _, _, _, h1.alloc (below_drewN (Below.refl _ _) m)⟩
          have q9 : decide ((b1.length : Int) > (most : Int)) = true := by simp; omega
          clear hu h1
          go_upto_region 8 with (fail)
          go_quiet (fail)
          go_wp2
          go_ret
          exact AllPost.mk HU.out (HE.out _) (fun h => by cases h)
        · rw [if_neg hm] at hu
          have HU := Lib.hid hu
          have H1 := Lib.hid h1
          have q9 : decide ((b1.length : Int) > (most : Int)) = false := by simp; omega
          have q8 : ¬ most < b1.length := hm
          clear hu
          go_upto_region 8 with (fail)
          go_quiet (fail)
          go_upto_region 10 with (fail)
          refine wp_forget (fun W => RdAt w0 W R b1 [] most A1 A2 c1 c2 l1 k1) (H1.out.alloc (below_drewN (Below.refl _ _) _)) ?_
          clear H1 r0 r2
          intro w2 h2
          have r0 := h2.r0
          have r1 := h2.r1
          have r3 := h2.r3
          have hlt := h2.lt
          have z1 := h2.z 1
          have z3 := h2.z 3
          have HC := Lib.hid (clone_any w2.drew A1 b1.length c1 b1 (h2.sb.drew) (by omega))
          have HE : Hid (∀ w3 A' c', FrB w2.drew w3 (.slice A' b1.length c') b1 → RdE w0 ((w3.setCell ⟨R, 1, none⟩ (.slice A' b1.length c')).setCell ⟨R, 3, none⟩ (.int .i64 b1.length)) R b1 b1 most) := fun w3 A' c' h3 =>
            ⟨_, _, _, _, _, _, ((h2.alloc (Below.refl _ _).drew).setOut (out' := b1) (A' := A') (c' := c') (Off.of_below h3.bel) (h3.own.mono hlt) (by omega)).set3 _⟩
          have HR : Hid (∀ w3, Below w2.drew.heap.size w2.drew w3 → (∀ j, w3.cell? ⟨R, j, none⟩ = w2.cell? ⟨R, j, none⟩) ∧ (∀ j, w3.frozen? ⟨R, j, none⟩ = w2.frozen? ⟨R, j, none⟩)) := fun w3 h3 =>
            ⟨fun j => h3.cell (p := ⟨R, j, none⟩) hlt, fun j => h3.frozen (p := ⟨R, j, none⟩) hlt⟩
          clear h2
          go_region_law (first | (go_simp; go_at_call 58; refine HC.out.mono ?_; rintro _ w3 ⟨A', c', rfl, h3, _⟩; have HE3 := Lib.hid (HE.out w3 A' c' h3); have q0 := ((HR.out w3 h3.bel).1 0).trans r0; have q1 := ((HR.out w3 h3.bel).1 1).trans r1; have q3 := ((HR.out w3 h3.bel).1 3).trans r3; have y1 := ((HR.out w3 h3.bel).2 1).trans z1; have y3 := ((HR.out w3 h3.bel).2 3).trans z3))
          all_goals
            go_upto_region 11 with (fail)
            refine wp_forget (fun W => RdE w0 W R b1 b1 most) HE3.out ?_
            clear HE3 HE HR HC q0 q1 q3 y1 y3 r0 r1 r3 z1 z3 hlt
            intro w4 h4
            have H4 := Lib.hid h4
            clear h4
            go_wp2
            go_ret
            exact AllPost.mk HU.out H4.out (fun _ => rfl)
      · have hu := HU.out
        rw [if_neg hy0] at hu
        have k0 : ((y : Int) == 0) = false := by simp; omega
        clear HU
        have H1 := Lib.hid h1
        clear h1
        by_cases hy1 : y = 1
        · subst hy1
          rw [if_pos rfl] at hu
          have HU := Lib.hid hu
          clear hu k0
          go_wp2
          go_loopw [4] (fun _ wr => ∃ b' out', RdE w0 wr R b' out' most ∧ toksB most [] b1 = toksB most out' b') (fun _ wr => leftOf wr R)
          case atStart => exact ⟨_, _, H1.out, rfl⟩
          case round =>
            obtain ⟨b', out', h2, ht⟩ := hrel
            clear H1
            have HT := Lib.hid ht
            clear ht
            have HM : Hid (leftOf wr R = b'.length) := by
              obtain ⟨_, _, _, _, _, _, h⟩ := h2
              exact leftOf_eq h
            have H2 := Lib.hid h2
            obtain ⟨A1, A2, c1, c2, l1, k1, h2⟩ := h2
            have r0 := h2.r0
            clear h2
            by_cases hb0 : b' = []
            · subst hb0
              have HT2 : Hid (unpackB most (x :: b1) = (out', 0)) := by
                have := HT.out
                rw [toksB_nil] at this
                have h := HU.out
                rw [this] at h
                exact h
              clear HT HU
              go_wp2
              go_ret
              exact AllPost.mk HT2.out H2.out (fun _ => rfl)
            · have hpos : 0 < b'.length := List.length_pos_iff.2 hb0
              have HK := Lib.hid (token_any H2.out)
              go_wp2_with fail
              refine HK.out.mono ?_
              rintro _ w2 ⟨rfl, h3⟩
              have H3 := Lib.hid h3
              clear h3 HK
              by_cases he : (tokB most out' b').2.2 = 0
              · have ht := HT.out
                rw [toksB_ok hb0 he] at ht
                have hls := tokB_less he
                have HT3 := Lib.hid ht
                rw [he]
                clear ht he HT
                generalize tokB most out' b' = q at *
                obtain ⟨o2, b2, e2⟩ := q
                simp only at H3 hls HT3
                go_wp2
                go_roundw
                case rel => exact ⟨_, _, _, _, _, _, _, _, _, _, _, _, _, ⟨b2, o2, H3.out, HT3.out⟩, rfl⟩
                case measure =>
                  obtain ⟨_, _, _, _, _, _, h⟩ := H3.out
                  rw [leftOf_eq h, HM.out]
                  exact hls
              · have HT2 : Hid (unpackB most (x :: b1) = ([], (tokB most out' b').2.2)) := by
                  have h := HU.out
                  rw [HT.out, toksB_bad hb0 he, if_neg he] at h
                  exact h
                have k1 : (((tokB most out' b').2.2 : Nat) : Int) ≠ 0 := by omega
                clear HT HU
                generalize tokB most out' b' = q at *
                obtain ⟨o2, b2, e2⟩ := q
                simp only at H3 HT2 k1 he
                go_wp2
                go_ret
                exact AllPost.mk HT2.out H3.out (fun h => absurd h he)
        · rw [if_neg hy1] at hu
          have HU := Lib.hid hu
          have k2 : ((y : Int) == 1) = false := by simp; omega
          clear hu
          go_wp2
          go_ret
          exact AllPost.mk HU.out H1.out (fun h => by cases h)

def UnPost (w : World) (r : Bytes × Nat) (e : Ending) (w' : World) : Prop := ∃ A' c', e = .returned (.tuple #[.slice A' r.1.length c', .int .i64 (r.2 : Nat)]) ∧ FrB w w' (.slice A' r.1.length c') r.1
theorem unpackB_err {most : Nat} {b : Bytes} (h : (unpackB most b).2 ≠ 0) : (unpackB most b).1 = [] := by
  cases b with
  | nil => rfl
  | cons x b =>
    simp only [unpackB] at h ⊢
    split
    · rename_i h0
      rw [if_pos h0] at h
      split
      · rfl
      · rename_i h1
        rw [if_neg h1] at h
        exact absurd rfl h
    · rename_i h0
      rw [if_neg h0] at h
      split
      · rename_i h1
        rw [if_pos h1] at h
        split
        · rename_i h2
          rw [if_pos h2] at h
          exact absurd rfl h
        · rfl
      · rfl
set_option maxRecDepth 100000 in
set_option maxHeartbeats 2000000 in
theorem unpack_any (w : World) (A : Option Addr) (n c : Nat) (b : Bytes) (most : Nat) (hb : SBy w A n b) (hc : n ≤ c) (hn : n ≤ 2 ^ 30) (hm : most ≤ 2 ^ 20) (hA : ∀ g o, A = some ⟨g, o, none⟩ → g < w.heap.size) :
    Calls Try.prog 53 #[.slice A n c, .int .i64 most] w (UnPost w (unpackB most b)) := by
  have hl := hb.1
  have HP : Hid (∀ r, unpackB most b = r → ∀ e w', UnPost w r e w' → UnPost w (unpackB most b) e w') := fun r hr e w' h => by rw [hr]; exact h
  have HX : Hid (RdAt w (w.alloc (.cells #[.slice A n c, .slice none 0 0, .int .i64 most, .int .i64 0, .int .i64 0] 133)) w.heap.size b [] most A none c 0 0 0) := by
    have b3 := heap_alloc_new w (.cells #[.slice A n c, .slice none 0 0, .int .i64 most, .int .i64 0, .int .i64 0] 133)
    refine ⟨by rw [cell_of_row _ _ _ _ _ _ b3, hl]; rfl, by rw [cell_of_row _ _ _ _ _ _ b3]; rfl, by rw [cell_of_row _ _ _ _ _ _ b3]; rfl, by rw [cell_of_row _ _ _ _ _ _ b3]; rfl, by rw [cell_of_row _ _ _ _ _ _ b3]; rfl, fun j => by unfold World.frozen?; rw [b3]; simp, by rw [hl]; exact hb.alloc _, by omega, hA, OwB.empty _ _, (Below.refl _ _).alloc (Nat.le_refl _) _, Nat.le_refl _, by omega, by simp, hm⟩
  clear hb
  go_enter Try.func53, Try.ntmps53
  go_wp2_with fail
  refine (all_any HX.out).mono ?_
  rintro _ w1 ⟨rfl, b', out', h1, ho⟩
  clear HX
  by_cases he : (unpackB most b).2 = 0
  · have ho' := ho he
    subst ho'
    obtain ⟨A1, A2, c1, c2, l, k, h1⟩ := h1
    have r1 := h1.r1
    have HF : Hid (FrB w w1 (.slice A2 (unpackB most b).1.length c2) (unpackB most b).1) := ⟨h1.ow.mono (by omega), h1.bel⟩
    have HP2 := HP.out _ rfl
    have HP3 := Lib.hid HP2
    rw [he]
    clear h1 ho HP2 HP
    generalize unpackB most b = r at *
    obtain ⟨o1, e1⟩ := r
    simp only at he r1 HF
    subst he
    go_wp2
    go_ret2
    exact HP3.out _ _ ⟨_, _, rfl, HF.out⟩
  · have hu := unpackB_err he
    have hk : (((unpackB most b).2 : Nat) : Int) ≠ 0 := by omega
    have HF : Hid (FrB w w1 (.slice none 0 0) []) := by
      obtain ⟨A1, A2, c1, c2, l, k, h1⟩ := h1
      exact ⟨OwB.empty _ _, h1.bel⟩
    have HP2 := HP.out _ rfl
    have HP3 := Lib.hid HP2
    clear h1 ho HP2 HP
    generalize unpackB most b = r at *
    obtain ⟨o1, e1⟩ := r
    simp only at he hk hu
    subst hu
    go_wp2
    go_ret2
    exact HP3.out _ _ ⟨none, 0, rfl, HF.out⟩
end Go.Proofs.Ytlmgihnnphmmhaa
