/- The contract of clean.victim: the place of the first one. -/
import Derived.Test.YteckbhpjhohanaaA
namespace Go.Proofs.Yteckbhpjhohanaa
open Go.RowKit
set_option linter.unusedVariables false

structure Ld where
  s : Int
  u : Int
  z : Int
  f : Bool

/-- The slice at A holds the n loads L. -/
def SL (w : World) (A : Option Addr) (n : Nat) (L : Nat → Ld) : Prop :=
  0 < n → ∃ b o, A = some ⟨b, o, none⟩ ∧ b < w.heap.size ∧ ∀ k, k < n → w.cell? ⟨b, o + k * 4, none⟩ = some (.int .i64 (L k).s) ∧ w.cell? ⟨b, o + k * 4 + 1, none⟩ = some (.int .i64 (L k).u) ∧ w.cell? ⟨b, o + k * 4 + 2, none⟩ = some (.int .i64 (L k).z) ∧ w.cell? ⟨b, o + k * 4 + 3, none⟩ = some (.bool (L k).f)
/-- The slice at A holds the n bools G. -/
def SB (w : World) (A : Option Addr) (n : Nat) (G : Nat → Bool) : Prop :=
  0 < n → ∃ b o, A = some ⟨b, o, none⟩ ∧ b < w.heap.size ∧ ∀ k, k < n → w.cell? ⟨b, o + k, none⟩ = some (.bool (G k))

def Ld.may (l : Ld) : Bool := mayB l.s l.u l.z l.f
def Ld.less (a b : Ld) : Bool := lessB a.s a.u a.z b.s b.u b.z

/-- The place of the victim among the first k; -1: none. -/
def bestTo (L : Nat → Ld) (G : Nat → Bool) : Nat → Int
  | 0 => -1
  | k + 1 => if !G k && ((L k).may && (decide (bestTo L G k < 0) || (L k).less (L (bestTo L G k).toNat))) then (k : Int) else bestTo L G k

theorem bestTo_bd (L : Nat → Ld) (G : Nat → Bool) (k : Nat) : -1 ≤ bestTo L G k ∧ bestTo L G k < k := by
  induction k with
  | zero => simp [bestTo]
  | succ k ih => unfold bestTo; split <;> omega

theorem may_z {s u z : Int} {f : Bool} (h : mayB s u z f = true) : 1 ≤ z := by
  simp [mayB, rightB] at h; omega

theorem bestTo_gone {L : Nat → Ld} {G : Nat → Bool} {k : Nat} (h : G k = true) : bestTo L G (k + 1) = bestTo L G k := by simp [bestTo, h]
theorem bestTo_not {L : Nat → Ld} {G : Nat → Bool} {k : Nat} (h : mayB (L k).s (L k).u (L k).z (L k).f = false) : bestTo L G (k + 1) = bestTo L G k := by simp [bestTo, Ld.may, h]
theorem bestTo_first {L : Nat → Ld} {G : Nat → Bool} {k : Nat} (h : G k = false) (h1 : mayB (L k).s (L k).u (L k).z (L k).f = true) (h2 : bestTo L G k < 0) : bestTo L G (k + 1) = k := by simp [bestTo, Ld.may, h, h1, h2]
theorem bestTo_next {L : Nat → Ld} {G : Nat → Bool} {k j : Nat} {b : Bool} (h : G k = false) (h1 : mayB (L k).s (L k).u (L k).z (L k).f = true) (h2 : bestTo L G k = j) (h3 : lessB (L k).s (L k).u (L k).z (L j).s (L j).u (L j).z = b) :
    bestTo L G (k + 1) = if b then k else j := by
  unfold bestTo
  simp only [h, Ld.may, h1, h2, Ld.less, Int.toNat_natCast, h3, Bool.not_false, Bool.true_and]
  cases b <;> simp
  omega

set_option maxHeartbeats 1000000 in
theorem victim_any (n c c' : Nat) (A B : Option Addr) (L : Nat → Ld) (G : Nat → Bool) (w : World) (hn : n ≤ maxLen) (hA : SL w A n L) (hB : SB w B n G) :
    Calls Try.prog 11 #[.slice A n c, .slice B n c'] w fun e w' => e = .returned (.int .i64 (bestTo L G n)) ∧ Below w.heap.size w w' := by
  unfold maxLen at hn
  have HA := Lib.hid hA
  have HB := Lib.hid hB
  clear hA hB
  go_enter Try.func11, Try.ntmps11
  go_wp2
  go_loopw [5, 10] (fun v i wr => ∃ (k : Nat) (x : Int), k ≤ n ∧ i = .int .i64 k ∧ v = .int .i64 x ∧ bestTo L G k = x ∧ Below w.heap.size w wr) (fun _ i _ => n - (intOf i).toNat)
  case atStart => exact ⟨0, -1, Nat.zero_le _, rfl, rfl, rfl, Below.refl _ _⟩
  case round =>
    obtain ⟨k, v, hk, rfl, rfl, hv, hb⟩ := hrel
    by_cases hlt : k < n
    · obtain ⟨b, o, rfl, hbl, hcl⟩ := HA.out (by omega)
      obtain ⟨b', o', rfl, hbl', hcl'⟩ := HB.out (by omega)
      have HL := Lib.hid hcl
      have Hb := Lib.hid hb
      have hs := hb.size
      obtain ⟨c0, c1, c2, c3⟩ := hcl k hlt
      have g0 := hcl' k hlt
      rw [← hb.cell (p := ⟨b, o + k * 4, none⟩) hbl] at c0
      rw [← hb.cell (p := ⟨b, o + k * 4 + 1, none⟩) hbl] at c1
      rw [← hb.cell (p := ⟨b, o + k * 4 + 2, none⟩) hbl] at c2
      rw [← hb.cell (p := ⟨b, o + k * 4 + 3, none⟩) hbl] at c3
      rw [← hb.cell (p := ⟨b', o' + k, none⟩) hbl'] at g0
      have q1 : b < wr.heap.size := by omega
      have q2 : b < wr.heap.size + 1 := by omega
      have q3 : b' < wr.heap.size := by omega
      have q4 : b' < wr.heap.size + 1 := by omega
      obtain ⟨hv0, hv1⟩ : -1 ≤ v ∧ v < k := hv ▸ bestTo_bd L G k
      have HV := Lib.hid hv
      clear hcl hcl' hb hv hs
      have HK : Hid (∀ (v' : Int) (w1 : World), bestTo L G (k + 1) = v' → Below (wr.alloc (.cells #[.int .i64 (L k).s, .int .i64 (L k).u, .int .i64 (L k).z, .bool (L k).f] 29)).heap.size (wr.alloc (.cells #[.int .i64 (L k).s, .int .i64 (L k).u, .int .i64 (L k).z, .bool (L k).f] 29)) w1 → ∃ (k' : Nat) (x : Int), k' ≤ n ∧ Value.int .i64 ((k : Int) + 1) = .int .i64 k' ∧ Value.int .i64 v' = .int .i64 x ∧ bestTo L G k' = x ∧ Below w.heap.size w w1) := by
        intro v' w1 h1 h2
        refine ⟨k + 1, v', by omega, by go_num, rfl, h1, ?_⟩
        exact below_upto (below_upto Hb.out ((Below.refl _ _).alloc (Nat.le_refl _) _) (Nat.le_refl _)) h2 (Nat.le_refl _)
      by_cases hG : G k = true
      · go_wp2
        refine wp_region_up (by kernel_rfl) (by kernel_rfl) ?_
        repeat (go_big_quiet_step (fail))
        refine wpQuiet_nil ?_
        rintro _ ⟨⟨w1, hb1⟩, rfl⟩
        have HB1 := Lib.hid hb1
        clear hb1
        go_wp2
        go_roundw
        case rel => exact HK.out _ _ (by rw [bestTo_gone hG]; exact HV.out) HB1.out
        case measure => simp [intOf]; omega
      have hG : G k = false := by simpa using hG
      by_cases hM : mayB (L k).s (L k).u (L k).z (L k).f = true
      · have hz := may_z hM
        by_cases hv2 : v < 0
        · go_wp2
          refine wp_region_up (by kernel_rfl) (by kernel_rfl) ?_
          repeat (go_big_quiet_step (first | (go_at_call 13; exact Calls.up_of (may_is _ hM))))
          refine wpQuiet_nil ?_
          rintro _ ⟨⟨w1, hb1⟩, rfl⟩
          have HB1 := Lib.hid hb1
          clear hb1
          go_wp2
          go_roundw
          case rel => exact HK.out _ _ (bestTo_first hG hM (by rw [HV.out]; exact hv2)) HB1.out
          case measure => simp [intOf]; omega
        · obtain ⟨j, rfl⟩ := Int.eq_ofNat_of_zero_le (Int.not_lt.1 hv2)
          obtain ⟨d0, d1, d2, d3⟩ := HL.out j (by omega)
          rw [← Hb.out.cell (p := ⟨b, o + j * 4, none⟩) hbl] at d0
          rw [← Hb.out.cell (p := ⟨b, o + j * 4 + 1, none⟩) hbl] at d1
          rw [← Hb.out.cell (p := ⟨b, o + j * 4 + 2, none⟩) hbl] at d2
          rw [← Hb.out.cell (p := ⟨b, o + j * 4 + 3, none⟩) hbl] at d3
          have hd : decide ((j : Int) < 0) = false := by simp
          cases hS : lessB (L k).s (L k).u (L k).z (L j).s (L j).u (L j).z
          all_goals
            go_wp2
            refine wp_region_up (by kernel_rfl) (by kernel_rfl) ?_
            repeat (go_big_quiet_step (first | (go_at_call 13; exact Calls.up_of (may_is _ hM)) | (go_at_call 14; exact Calls.up_of (less_is _ _ _ hS))))
            refine wpQuiet_nil ?_
            rintro _ ⟨⟨w1, hb1⟩, rfl⟩
            have HB1 := Lib.hid hb1
            clear hb1
            go_wp2
            go_roundw
            case rel => exact HK.out _ _ (bestTo_next hG hM HV.out hS) HB1.out
            case measure => simp [intOf]; omega
      · have hM : mayB (L k).s (L k).u (L k).z (L k).f = false := by simpa using hM
        go_wp2
        refine wp_region_up (by kernel_rfl) (by kernel_rfl) ?_
        repeat (go_big_quiet_step (first | (go_at_call 13; exact Calls.up_of (may_is _ hM))))
        refine wpQuiet_nil ?_
        rintro _ ⟨⟨w1, hb1⟩, rfl⟩
        have HB1 := Lib.hid hb1
        clear hb1
        go_wp2
        go_roundw
        case rel => exact HK.out _ _ (by rw [bestTo_not hM]; exact HV.out) HB1.out
        case measure => simp [intOf]; omega
    · go_wp2
      go_ret
      have e : k = n := by omega
      subst e
      exact ⟨by rw [hv]; rfl, hb⟩
end Go.Proofs.Yteckbhpjhohanaa
