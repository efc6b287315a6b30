/- lz.Pack. -/
import Derived.Test.YtlmgihnnphmmhaaLlZ
namespace Go.Proofs.Ytlmgihnnphmmhaa
open Go.RowKit
set_option linter.unusedVariables false
set_option linter.unusedSimpArgs false

def packK (b : Bytes) : Nat → Bytes
  | 0 => 0 :: b
  | 1 => better (0 :: b) (greedyB b)
  | _ => packB b
theorem packK_step (b : Bytes) (k : Nat) (hk : k < 2) : packK b (k + 1) = better (packK b k) (if k = 0 then greedyB b else halvesB b) := by
  have : k = 0 ∨ k = 1 := by omega
  rcases this with rfl | rfl <;> rfl

set_option maxRecDepth 100000 in
set_option maxHeartbeats 2000000 in
theorem pack_any (w : World) (A : Option Addr) (n c : Nat) (b : Bytes) (hb : SBy w A n b) (hc : n ≤ c) (hn : n ≤ 2 ^ 20) :
    Calls Try.prog 43 #[.slice A n c] w fun e w' => ∃ A' n' c', e = .returned (.slice A' n' c') ∧ FrB w w' (.slice A' n' c') (packB b) := by
  have hl := hb.1
  have HB := Lib.hid hb
  clear hb
  go_enter Try.func43, Try.ntmps43
  go_upto_region 2 with (at_builtin; go_must (refine wpList_appF rfl (.tmp 6) (.tmp 7) rfl w (.slice (some ⟨w.heap.size, 0, none⟩) 1 1) [b8 0] b rfl (FrB.one w (x := 0) (by omega)) A n c rfl (HB.out.alloc _) (by simp; omega) (n + 1) (by simp; omega) ?_); intro A1 c1 w1 h1 hg1)
  have H1 := Lib.hid h1
  clear h1 hg1
  go_wp2_with fail
  refine (greedy_any w1 A n c b (HB.out.up H1.out.bel) hc hn).mono ?_
  rintro _ w2 ⟨A2, n2, c2, rfl, h2⟩
  have H1' := Lib.hid (H1.out.up h2.bel)
  have H2 := Lib.hid (h2.elder H1.out.bel)
  clear h2 H1
  go_wp2_with fail
  refine (halves_any w2 A n c b (HB.out.up H2.out.bel) hc hn).mono ?_
  rintro _ w3 ⟨A3, n3, c3, rfl, h3⟩
  have H1 := Lib.hid (H1'.out.up h3.bel)
  have H2' := Lib.hid (H2.out.up h3.bel)
  have H3 := Lib.hid (h3.elder H2.out.bel)
  clear h3 H2 H1'
  go_upto_region 3 with (fail)
  refine wp_forget (fun W => FrB w W (.slice A1 (n + 1) c1) (0 :: b) ∧ FrB w W (.slice A2 n2 c2) (greedyB b) ∧ FrB w W (.slice A3 n3 c3) (halvesB b) ∧ W.cell? ⟨w3.heap.size, 0, none⟩ = some (.slice A2 n2 c2) ∧ W.cell? ⟨w3.heap.size, 1, none⟩ = some (.slice A3 n3 c3)) ?f1 ?_
  case f1 =>
    have b3 := heap_alloc_new w3 (.cells #[.slice A2 n2 c2, .slice A3 n3 c3] 28)
    exact ⟨H1.out.alloc _, H2'.out.alloc _, H3.out.alloc _, by rw [cell_of_row _ _ _ _ _ _ b3]; rfl, by rw [cell_of_row _ _ _ _ _ _ b3]; rfl⟩
  clear H1 H2' H3
  generalize w3.heap.size = G
  rintro W ⟨h1, h2, h3, cc1, cc2⟩
  have H1 := Lib.hid h1
  have H2 := Lib.hid h2
  have H3 := Lib.hid h3
  clear h1 h2 h3
  go_wp2
  go_loop [3, 15] (fun v i => ∃ (k : Nat) (A' : Option Addr) (n' c' : Nat), k ≤ 2 ∧ i = .int .i64 k ∧ v = .slice A' n' c' ∧ FrB w W (.slice A' n' c') (packK b k)) (fun _ i => 2 - (intOf i).toNat)
  case atStart => exact ⟨0, _, _, _, by omega, rfl, rfl, H1.out⟩
  case round =>
    obtain ⟨k, A', n', c', hk, rfl, rfl, hf⟩ := hrel
    have HF := Lib.hid hf
    clear hf
    by_cases hk2 : k < 2
    · have hst := packK_step b k hk2
      obtain ⟨A4, n4, c4, L4, h4, h5, h6⟩ : ∃ A4 n4 c4 L4, W.cell? ⟨G, k, none⟩ = some (.slice A4 n4 c4) ∧ FrB w W (.slice A4 n4 c4) L4 ∧ packK b (k + 1) = better (packK b k) L4 := by
        have : k = 0 ∨ k = 1 := by omega
        rcases this with rfl | rfl
        · exact ⟨_, _, _, _, cc1, H2.out, hst⟩
        · exact ⟨_, _, _, _, cc2, H3.out, hst⟩
      have H5 := Lib.hid h5
      have H6 := Lib.hid h6
      have hl1 := HF.out.len
      have hl4 := h5.len
      have i1 : (k : Int) < 2 := by omega
      have i2 : (0 : Int) ≤ (k : Int) := by omega
      clear hst h5 h6 cc1 cc2
      by_cases hp : 0 < n4
      · by_cases hlt : n4 < n'
        · have HN : Hid (FrB w W (.slice A4 n4 c4) (packK b (k + 1))) := by
            rw [H6.out]; unfold better; rw [if_pos ⟨by omega, by omega⟩]; exact H5.out
          have k1 : (n4 : Int) > 0 := by omega
          have k2 : (n4 : Int) < (n' : Int) := by omega
          clear hl1 hl4
          go_wp2
          go_round
          case rel => exact ⟨k + 1, _, _, _, by omega, by go_num, rfl, HN.out⟩
          case measure => simp [intOf]; omega
        · have HN : Hid (FrB w W (.slice A' n' c') (packK b (k + 1))) := by
            rw [H6.out]; unfold better; rw [if_neg (by omega)]; exact HF.out
          have k1 : (n4 : Int) > 0 := by omega
          have k2 : ¬ (n4 : Int) < (n' : Int) := by omega
          clear hl1 hl4
          go_wp2
          go_round
          case rel => exact ⟨k + 1, _, _, _, by omega, by go_num, rfl, HN.out⟩
          case measure => simp [intOf]; omega
      · have HN : Hid (FrB w W (.slice A' n' c') (packK b (k + 1))) := by
          rw [H6.out]; unfold better; rw [if_neg (by omega)]; exact HF.out
        have k1 : ¬ (n4 : Int) > 0 := by omega
        clear hl1 hl4
        go_wp2
        go_round
        case rel => exact ⟨k + 1, _, _, _, by omega, by go_num, rfl, HN.out⟩
        case measure => simp [intOf]; omega
    · obtain rfl : k = 2 := by omega
      go_wp2
      go_ret
      exact ⟨_, _, _, rfl, HF.out⟩
end Go.Proofs.Ytlmgihnnphmmhaa
