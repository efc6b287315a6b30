/- The reference's sums: Sum, Seal, Open. -/
import Derived.Test.YtlmgihnnphmmhaaMB
import Derived.Deep.RegionLaw
namespace Go.Proofs.Ytlmgihnnphmmhaa
open Go.RowKit
set_option linter.unusedVariables false
set_option linter.unusedSimpArgs false

theorem bitN_succ (k v : Nat) : bitN (k + 1) v = bit1 (bitN k v) := by rw [Nat.add_comm, bitN_add]; rfl
theorem bit1_odd {v : Nat} (h : v < 4294967296) (ho : v % 2 = 1) : bits .xor .u32 ((v : Int) / 2) 2197175160 = (bit1 v : Nat) := by
  have h2 : ((v : Int) / 2) = ((v / 2 : Nat) : Int) := by omega
  have h3 : bits .xor .u32 ((v / 2 : Nat) : Int) ((2197175160 : Nat) : Int) = _ := xor32 (by omega) (by omega)
  rw [h2]
  refine h3.trans ?_
  unfold bit1
  rw [ho]
theorem bit1_ev {v : Nat} (ho : v % 2 = 0) : (v : Int) / 2 = (bit1 v : Nat) := by
  unfold bit1
  rw [ho]
  simp
set_option maxRecDepth 100000 in
set_option maxHeartbeats 1000000 in
theorem rsum_any (w : World) (A : Option Addr) (n c : Nat) (L : Bytes) (hL : SBy w A n L) (hn : n ≤ 2 ^ 40) :
    Calls Try.prog 106 #[.slice A n c] w fun e w' => e = .returned (.int .u32 (sumOf L : Nat)) ∧ w' = w := by
  have hl := hL.1
  have HL := Lib.hid hL
  clear hL
  go_enter Try.func106, Try.ntmps106
  go_wp2
  go_loop [3, 4] (fun v i => ∃ j : Nat, j ≤ n ∧ i = .int .i64 j ∧ v = .int .u32 (sumGo 4294967295 (L.take j) : Nat)) (fun _ i => n - (intOf i).toNat)
  case atStart => exact ⟨0, Nat.zero_le _, rfl, rfl⟩
  case round =>
    obtain ⟨j, hj, rfl, rfl⟩ := hrel
    by_cases hjn : j < n
    · obtain ⟨b, o, rfl, hbb, hc⟩ := HL.out.2 (by omega)
      have c0 := hc j hjn
      clear hc
      have hlt := at8_lt L j
      have HS : Hid (sumGo 4294967295 (L.take (j + 1)) = bitN 8 (sumGo 4294967295 (L.take j) ^^^ at8 L j)) := by rw [sumGo_take (by omega), at8_get (by omega)]; rfl
      have hv := sumGo_lt (v := 4294967295) (by omega) (L.take j)
      generalize sumGo 4294967295 (L.take j) = v at *
      generalize at8 L j = y at *
      have e1 := w32_of (n := y) (by omega)
      have e2 := xor32 (a := v) (b := y) hv (by omega)
      have hx : v ^^^ y < 4294967296 := Nat.xor_lt_two_pow (n := 32) hv (by omega)
      obtain ⟨x, hxe⟩ : ∃ x, x = v ^^^ y := ⟨_, rfl⟩
      rw [← hxe] at e2 hx HS
      have i1 : (j : Int) < (n : Int) := by omega
      clear hxe
      go_wp2
      go_loop [3, 5] (fun v i => ∃ k : Nat, k ≤ 8 ∧ i = .int .i64 k ∧ v = .int .u32 (bitN k x : Nat)) (fun _ i => 8 - (intOf i).toNat)
      case atStart => exact ⟨0, Nat.zero_le _, rfl, rfl⟩
      case round =>
        obtain ⟨k, hk, rfl, rfl⟩ := hrel
        by_cases hk8 : k < 8
        · have hb := bitN_lt k hx
          have HE := Lib.hid (bitN_succ k x)
          generalize bitN k x = q at *
          have a1 := and1 q hb
          have i2 : (k : Int) < 8 := by omega
          rcases Nat.mod_two_eq_zero_or_one q with h0 | h0
          · rw [h0] at a1
            have HF := Lib.hid (bit1_ev h0)
            clear h0 e1 e2
            go_wp2
            go_round
            case rel => exact ⟨k + 1, by omega, by go_num, by rw [HE.out, ← HF.out]⟩
            case measure => simp [intOf]; omega
          · rw [h0] at a1
            have HF := bit1_odd hb h0
            clear h0 e1 e2
            go_wp2
            go_round
            case rel => exact ⟨k + 1, by omega, by go_num, by rw [HE.out]⟩
            case measure => simp [intOf]; omega
        · obtain rfl : k = 8 := by omega
          go_wp2
          go_round
          case rel => exact ⟨j + 1, by omega, by go_num, by rw [HS.out]⟩
          case measure => simp [intOf]; omega
    · obtain rfl : j = n := by omega
      have ht : L.take j = L := List.take_of_length_le (by omega)
      have i1 : ¬ (j : Int) < (j : Int) := by omega
      rw [ht]
      have HN := Lib.hid (not32 _ (sumGo_lt (v := 4294967295) (by omega) L))
      go_wp2
      go_ret
      exact ⟨by rw [show sumOf L = sumGo 4294967295 L ^^^ 4294967295 by rfl, ← HN.out]; rfl, rfl⟩
theorem leB4 (s : Nat) : leB s 4 = [b8 (s % 256), b8 (s / 256 % 256), b8 (s / 65536 % 256), b8 (s / 16777216 % 256)] := by
  simp [leB, List.range_succ]
theorem SBy.four (w : World) {x0 x1 x2 x3 : Nat} (h0 : x0 < 256) (h1 : x1 < 256) (h2 : x2 < 256) (h3 : x3 < 256) {y0 y1 y2 y3 : Int} (e0 : y0 = (x0 : Int)) (e1 : y1 = (x1 : Int)) (e2 : y2 = (x2 : Int)) (e3 : y3 = (x3 : Int)) (t : TypeId) (p : Nat × Nat) : SBy (w.alloc (.cells #[.int .u8 y0, .int .u8 y1, .int .u8 y2, .int .u8 y3] t p)) (some ⟨w.heap.size, 0, none⟩) 4 [b8 x0, b8 x1, b8 x2, b8 x3] := by
  subst e0 e1 e2 e3
  have b1 := heap_alloc_new w (.cells #[.int .u8 (x0 : Nat), .int .u8 (x1 : Nat), .int .u8 (x2 : Nat), .int .u8 (x3 : Nat)] t p)
  refine ⟨rfl, fun _ => ⟨w.heap.size, 0, rfl, by simp, fun k hk => ?_⟩⟩
  rw [Nat.zero_add, cell_of_row _ _ _ _ _ _ b1]
  match k, hk with
  | 0, _ => simp [at8, b8_lt h0]
  | 1, _ => simp [at8, b8_lt h1]
  | 2, _ => simp [at8, b8_lt h2]
  | 3, _ => simp [at8, b8_lt h3]
set_option maxRecDepth 100000 in
set_option maxHeartbeats 1000000 in
theorem rseal_any (w : World) (A : Option Addr) (n c : Nat) (L : Bytes) (hL : SBy w A n L) (hn : n ≤ 2 ^ 40) :
    Calls Try.prog 87 #[.slice A n c] w fun e w' => ∃ A' c', e = .returned (.slice A' (n + 4) c') ∧ FrB w w' (.slice A' (n + 4) c') (sealB L) := by
  have hl := hL.1
  have HL := Lib.hid hL
  have HS := Lib.hid (rsum_any w A n c L hL hn)
  clear hL
  have hs := sumOf_lt L
  have HE : Hid (sealB L = L ++ leB (sumOf L) 4) := rfl
  generalize sumOf L = s at *
  go_enter Try.func87, Try.ntmps87
  go_wp2_with fail
  refine HS.out.mono ?_
  rintro _ w ⟨rfl, rfl⟩
  clear HS
  have m0 : s % 256 < 256 := Nat.mod_lt _ (by omega)
  have m1 : s / 256 % 256 < 256 := Nat.mod_lt _ (by omega)
  have m2 : s / 65536 % 256 < 256 := Nat.mod_lt _ (by omega)
  have m3 : s / 16777216 % 256 < 256 := Nat.mod_lt _ (by omega)
  have e0 := w8 s
  have e1 := w8 (s / 256)
  have e2 := w8 (s / 65536)
  have e3 := w8 (s / 16777216)
  go_wp2_with (at_builtin; first
    | (refine wpList_appF rfl (.tmp 6) (.tmp 7) rfl w (.slice (some ⟨w.heap.size, 0, none⟩) 0 0) [] L rfl (FrB.lit w) A n c rfl (HL.out.alloc _) (by simp; omega) n (by simp) ?_; intro A' c' w1 h1 hg1; have H1 := Lib.hid h1; clear h1 hg1)
    | (refine wpList_appF rfl (.tmp 8) (.tmp 20) rfl w (.slice A' n c') ([] ++ L) [b8 (s % 256), b8 (s / 256 % 256), b8 (s / 65536 % 256), b8 (s / 16777216 % 256)] rfl (H1.out.alloc _) (some ⟨w1.heap.size, 0, none⟩) 4 4 rfl (SBy.four w1 m0 m1 m2 m3 (by omega) (by omega) (by omega) (by omega) _ _) (by simp; omega) (n + 4) (by simp; omega) ?_; intro A2 c2 w2 h2 hg2))
  have H2 := Lib.hid h2
  clear h2 hg2 H1
  go_wp2
  go_ret
  refine ⟨_, _, rfl, ?_⟩
  rw [HE.out, leB4]
  simpa using H2.out
set_option maxRecDepth 100000 in
set_option maxHeartbeats 1000000 in
/-- What was sealed is opened. -/
theorem ropen_ok (w : World) (A : Option Addr) (n c : Nat) (M : Bytes) (hL : SBy w A n (sealB M)) (hc : n ≤ c) (hn : n ≤ 2 ^ 40) :
    Calls Try.prog 60 #[.slice A n c] w fun e w' => ∃ A' c', e = .returned (.tuple #[.slice A' M.length c', .int .i64 0]) ∧ FrB w w' (.slice A' M.length c') M := by
  have hl := hL.1
  rw [sealB_length] at hl
  have HL := Lib.hid hL
  obtain ⟨m, hm⟩ : ∃ m, M.length = m := ⟨_, rfl⟩
  rw [hm] at hl ⊢
  subst hl
  obtain ⟨b, o, rfl, hb, _⟩ := hL.2 (by omega)
  have P2 : Hid (SBy w (some ⟨b, o, none⟩) m M) := by
    have h1 := hL.part 0 m (by omega) (by omega)
    have e1 : (List.drop 0 (sealB M)).take (m - 0) = M := by
      rw [List.drop_zero, Nat.sub_zero, ← hm]
      unfold sealB
      exact List.take_left
    rw [e1] at h1
    exact h1
  have i1 : ¬ ((m : Int) + 4 - 4 < 0) := by omega
  have i3 : (0 : Int) ≤ (m : Int) := by omega
  have i4 : (m : Int) ≤ (c : Int) := by omega
  have i2 : ((m : Int) + 4 - 4) = (m : Int) := by omega
  have HS := Lib.hid (fun w' (h : SBy w' (some ⟨b, o, none⟩) m M) => rseal_any w' (some ⟨b, o, none⟩) m c M h (by omega))
  clear hL
  go_enter Try.func60, Try.ntmps60
  go_upto_region 4 with (fail)
  have HC0 : Hid (∀ w', Below w.heap.size w w' → (convert 28 9 (.slice (some ⟨b, o, none⟩) (m + 4) c)).run Try.prog w' = .ok (.string (strB (sealB M))) w') := fun w' hb => (HL.out.up hb).str c
  have s0 := HC0.out w.drew (Below.refl _ _).drew
  go_region_law (first | (go_simp; go_at_call 87; refine (HS.out _ (P2.out.drew)).mono ?_; rintro _ w2 ⟨A2, c2, rfl, hf2⟩; have HB2 : Hid (Below w.heap.size w w2) := ((Below.refl _ _).drew).trans hf2.bel; have s2 := hf2.sby.str c2; have s3 := HC0.out w2 HB2.out; clear hf2))
  all_goals
    clear s0 s2 s3 HC0
    go_wp2_with (at_builtin; go_must (refine wpList_appF rfl (.tmp 18) (.tmp 21) rfl w2 (.slice (some ⟨w2.heap.size, 0, none⟩) 0 0) [] M rfl (FrB.lit w2) (some ⟨b, o, none⟩) m c rfl ((P2.out.up HB2.out).alloc _) (by simp; omega) m (by simp [hm]) ?_); intro A' c' w3 h3 hg3)
    have H3 := Lib.hid (h3.elder HB2.out)
    clear h3 hg3
    go_wp2
    go_ret2
    exact ⟨_, _, rfl, by simpa using H3.out⟩
end Go.Proofs.Ytlmgihnnphmmhaa
