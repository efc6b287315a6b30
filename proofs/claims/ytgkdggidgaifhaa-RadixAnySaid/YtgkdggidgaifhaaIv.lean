/- ints.Var, ints.ReadVar. -/
import Derived.Test.YtgkdggidgaifhaaIa
namespace Go.Proofs.Ytgkdggidgaifhaa
open Go.RowKit
set_option linter.unusedVariables false
set_option linter.unusedSimpArgs false

/-- A number, seven bits a byte. -/
def varB (v : Nat) : Bytes := if v < 128 then [b8 v] else b8 (v % 128 + 128) :: varB (v / 128)
termination_by v
decreasing_by omega
theorem varB_lo {v : Nat} (h : v < 128) : varB v = [b8 v] := by rw [varB]; simp [h]
theorem varB_hi {v : Nat} (h : 128 ≤ v) : varB v = b8 (v % 128 + 128) :: varB (v / 128) := by rw [varB]; simp [show ¬ v < 128 by omega]
theorem varB_pos (v : Nat) : 0 < (varB v).length := by rw [varB]; split <;> simp
theorem varB_le : ∀ (k : Nat) (v : Nat), v < 128 ^ (k + 1) → (varB v).length ≤ k + 1 := by
  intro k
  induction k with
  | zero => intro v h; rw [varB_lo (by simpa using h)]; simp
  | succ k ih =>
    intro v h
    by_cases h1 : v < 128
    · rw [varB_lo h1]; simp
    · rw [varB_hi (by omega)]
      have := ih (v / 128) (by rw [Nat.pow_succ] at h; omega)
      simp; omega
theorem varB_10 {v : Nat} (h : v < 18446744073709551616) : (varB v).length ≤ 10 := by
  have e : (128 : Nat) ^ (9 + 1) = 1180591620717411303424 := by decide
  exact varB_le 9 v (by omega)
set_option maxRecDepth 100000 in
theorem or128 : ∀ x : Nat, x < 256 → x ||| 128 = x % 128 + 128 := by decide
theorem or8_128 (n : Nat) : bits .or .u8 ((n % 256 : Nat) : Int) 128 = ((n % 128 + 128 : Nat) : Int) := by
  have h : n % 256 < 256 := Nat.mod_lt _ (by omega)
  have := or8 (a := n % 256) (b := 128) h (by omega)
  rw [show ((128 : Nat) : Int) = 128 by rfl] at this
  rw [this, or128 _ h]
  congr 1
  omega

set_option maxRecDepth 100000 in
set_option maxHeartbeats 1000000 in
theorem var_any (w : World) (A : Option Addr) (n c : Nat) (L : Bytes) (V : Nat) (hL : SBy w A n L) (hV : V < 18446744073709551616) (hn : n ≤ 2 ^ 40) :
    Calls Try.prog 88 #[.slice A n c, .int .u64 V] w fun e w' => ∃ A' n' c', e = .returned (.slice A' n' c') ∧ FrB w w' (.slice A' n' c') (L ++ varB V) := by
  have hl := hL.1
  have HL := Lib.hid hL
  have HV := Lib.hid hV
  clear hL hV
  go_enter Try.func88, Try.ntmps88
  go_wp2_with (at_builtin; go_must (refine wpList_appF rfl (.tmp 6) (.tmp 7) rfl w (.slice (some ⟨w.heap.size, 0, none⟩) 0 0) [] L rfl (FrB.lit w) A n c rfl (HL.out.alloc _) (by simp; omega) n (by simp) ?_); intro A' c' w1 h1 hg)
  have H1 := Lib.hid h1
  clear h1 hg
  go_loopw [1, 5] (fun u v wr => ∃ (x : Nat) (pre : Bytes) (A' : Option Addr) (c' : Nat), u = .int .u64 x ∧ x ≤ V ∧ varB V = pre ++ varB x ∧ v = .slice A' (n + pre.length) c' ∧ FrB w wr v (L ++ pre)) (fun u _ _ => (intOf u).toNat)
  case atStart => exact ⟨V, [], _, _, rfl, Nat.le_refl _, rfl, rfl, by simpa using H1.out⟩
  case round =>
    obtain ⟨x, pre, A', c', rfl, hx, hp, rfl, hf⟩ := hrel
    clear H1
    have HF := Lib.hid hf
    have hp10 : pre.length ≤ 10 := by have h1 := varB_10 HV.out; have h2 := varB_pos x; rw [hp, List.length_append] at h1; omega
    have HP := Lib.hid hp
    clear hf hp
    have e2 := w8 x
    by_cases hbig : 128 ≤ x
    · have e3 := or8_128 x
      simp at e3
      have hm : x % 128 + 128 < 256 := by omega
      go_wp2_with (at_builtin; go_must (refine wpList_appF rfl (.tmp 13) (.tmp 17) rfl w (.slice A' (n + pre.length) c') (L ++ pre) [b8 (x % 128 + 128)] rfl (HF.out.alloc _) (some ⟨wr.heap.size, 0, none⟩) 1 1 rfl (SBy.oneI wr (x % 128 + 128) hm (by simp [e3]) _) (by simp; omega) (n + (pre.length + 1)) (by simp; omega) ?_); intro A2 c2 w2 h2 hg2)
      rw [List.append_assoc] at h2
      have H2 := Lib.hid h2
      clear h2 hg2 HF
      go_wp2
      go_roundw
      case rel => exact ⟨x / 128, pre ++ [b8 (x % 128 + 128)], A2, c2, by simp, by omega, by rw [HP.out, varB_hi hbig]; simp, by simp, H2.out⟩
      case measure => simp [intOf]; omega
    · have hm : x % 256 < 256 := by omega
      have h3 : x < 128 := by omega
      go_wp2_with (at_builtin; go_must (refine wpList_appF rfl (.tmp 19) (.tmp 22) rfl w (.slice A' (n + pre.length) c') (L ++ pre) [b8 (x % 256)] rfl (HF.out.alloc _) (some ⟨wr.heap.size, 0, none⟩) 1 1 rfl (SBy.one wr hm _) (by simp; omega) (n + (pre ++ [b8 (x % 256)]).length) (by simp; omega) ?_); intro A2 c2 w2 h2 hg2)
      rw [List.append_assoc] at h2
      have H2 := Lib.hid h2
      clear h2 hg2 HF
      go_wp2
      go_ret
      refine ⟨_, _, _, rfl, ?_⟩
      rw [HP.out, varB_lo h3, show b8 x = b8 (x % 256) by rw [Nat.mod_eq_of_lt (by omega)]]
      simpa using H2.out

/-- What ReadVar answers, behind i bytes that made v: the number, the bytes that it took, the error. -/
def rdVar : Nat → Nat → Bytes → Nat × Nat × Nat
  | _, _, [] => (0, 0, 21)
  | i, v, c :: r => if i = 10 ∨ (i = 9 ∧ 1 < c.toNat) then (0, 0, 22) else
      if 128 ≤ c.toNat then rdVar (i + 1) (v + c.toNat % 128 * 128 ^ i) r else
        if c.toNat = 0 ∧ 0 < i then (0, 0, 22) else (v + c.toNat % 128 * 128 ^ i, i + 1, 0)
theorem rdVar_cons (i v : Nat) (c : UInt8) (r : Bytes) : rdVar i v (c :: r) = if i = 10 ∨ (i = 9 ∧ 1 < c.toNat) then (0, 0, 22) else
      if 128 ≤ c.toNat then rdVar (i + 1) (v + c.toNat % 128 * 128 ^ i) r else
        if c.toNat = 0 ∧ 0 < i then (0, 0, 22) else (v + c.toNat % 128 * 128 ^ i, i + 1, 0) := rfl
set_option maxRecDepth 100000 in
theorem and128 : ∀ x : Nat, x < 256 → x &&& 128 = if 128 ≤ x then 128 else 0 := by decide
theorem rdVar_back : ∀ (k V i v : Nat) (r : Bytes), V < 128 ^ (k + 1) → i + k ≤ 9 → (i + k = 9 → V * 128 ^ i < 18446744073709551616) → (0 < i → 0 < V) → rdVar i v (varB V ++ r) = (v + V * 128 ^ i, i + (varB V).length, 0) := by
  intro k
  induction k with
  | zero =>
    intro V i v r h hi h9 h0
    have hV : V < 128 := by simpa using h
    rw [varB_lo hV]
    have e1 : (b8 V).toNat = V := b8_lt (by omega)
    have n1 : ¬ (i = 10 ∨ (i = 9 ∧ 1 < V)) := by
      rintro (h1 | ⟨h1, h2⟩)
      · omega
      · subst h1
        have := h9 rfl
        have e : (128 : Nat) ^ 9 = 9223372036854775808 := by decide
        omega
    have n2 : ¬ 128 ≤ V := by omega
    have n3 : ¬ (V = 0 ∧ 0 < i) := by omega
    simp only [List.cons_append, rdVar, e1, n1, n2, n3, if_false, Nat.mod_eq_of_lt hV, List.length_cons, List.length_nil]
  | succ k ih =>
    intro V i v r h hi h9 h0
    by_cases hV : V < 128
    · rw [varB_lo hV]
      have e1 : (b8 V).toNat = V := b8_lt (by omega)
      have n1 : ¬ (i = 10 ∨ (i = 9 ∧ 1 < V)) := by omega
      have n2 : ¬ 128 ≤ V := by omega
      have n3 : ¬ (V = 0 ∧ 0 < i) := by omega
      simp only [List.cons_append, rdVar, e1, n1, n2, n3, if_false, Nat.mod_eq_of_lt hV, List.length_cons, List.length_nil]
    · rw [varB_hi (by omega)]
      have e1 : (b8 (V % 128 + 128)).toNat = V % 128 + 128 := b8_lt (by omega)
      have n1 : ¬ (i = 10 ∨ (i = 9 ∧ 1 < V % 128 + 128)) := by omega
      have n2 : 128 ≤ V % 128 + 128 := by omega
      have hm : (V % 128 + 128) % 128 = V % 128 := by omega
      have hd : V / 128 * 128 ^ (i + 1) = V / 128 * 128 * 128 ^ i := by rw [Nat.pow_succ, Nat.mul_comm (128 ^ i) 128, Nat.mul_assoc]
      have hs : V % 128 * 128 ^ i + V / 128 * 128 * 128 ^ i = V * 128 ^ i := by rw [← Nat.add_mul]; congr 1; omega
      simp only [List.cons_append, rdVar, e1, n1, n2, if_false, if_true, hm, List.length_cons]
      rw [ih (V / 128) (i + 1) _ r (by rw [Nat.pow_succ] at h; omega) (by omega) (fun h2 => by
        have := h9 (by omega)
        omega) (fun _ => by omega)]
      rw [hd]
      simp only [Prod.mk.injEq, and_true]
      exact ⟨by omega, by omega⟩
theorem rdVar_var {V : Nat} (r : Bytes) (h : V < 18446744073709551616) : rdVar 0 0 (varB V ++ r) = (V, (varB V).length, 0) := by
  have e : (128 : Nat) ^ (9 + 1) = 1180591620717411303424 := by decide
  rw [rdVar_back 9 V 0 0 r (by omega) (by omega) (by simp; omega) (by omega)]
  simp
theorem var_step (v x i : Nat) (hv : v < 128 ^ i) (hx : x < 256) (hi : i ≤ 9) (h9 : i = 9 → x ≤ 1) :
    bits .or .u64 (v : Int) (IntKind.u64.wrap (IntKind.u64.wrap (bits .and .u8 (x : Int) 127) * 2 ^ (7 * i))) = ((v + x % 128 * 128 ^ i : Nat) : Int) ∧ v + x % 128 * 128 ^ i < 128 ^ (i + 1) := by
  have e0 : bits .and .u8 (x : Int) 127 = ((x % 128 : Nat) : Int) := by rw [u8_and127 _ (by omega) (by omega)]; simp
  have hm : x % 128 < 128 := Nat.mod_lt _ (by omega)
  have ep : (128 : Nat) ^ i = 2 ^ (7 * i) := by rw [Nat.pow_mul]
  have e1 : ((x % 128 : Nat) : Int) * 2 ^ (7 * i) = ((x % 128 * 128 ^ i : Nat) : Int) := by rw [ep]; simp
  have hle : x % 128 * 128 ^ i ≤ 127 * 128 ^ i := Nat.mul_le_mul_right _ (by omega)
  have hlt : v + x % 128 * 128 ^ i < 128 ^ (i + 1) := by rw [Nat.pow_succ]; omega
  have hb : x % 128 * 128 ^ i < 18446744073709551616 ∧ v < 18446744073709551616 := by
    rcases Nat.lt_or_ge i 9 with h | h
    · have hp : 128 ^ (i + 1) ≤ 128 ^ 9 := Nat.pow_le_pow_right (by omega) (by omega)
      have e : (128 : Nat) ^ 9 = 9223372036854775808 := by decide
      omega
    · have : i = 9 := by omega
      subst this
      have e : (128 : Nat) ^ 9 = 9223372036854775808 := by decide
      have := h9 rfl
      have h2 : x % 128 ≤ 1 := by omega
      have h3 : x % 128 * 128 ^ 9 ≤ 1 * 128 ^ 9 := Nat.mul_le_mul_right _ h2
      omega
  refine ⟨?_, hlt⟩
  rw [e0, w64_of (n := x % 128) (by omega), e1, w64_of hb.1, or64 hb.2 hb.1, ep, or_sum (by rw [← ep]; exact hv)]

def RvPost (L : Bytes) (w : World) (e : Ending) (w' : World) : Prop := e = .returned (.tuple #[.int .u64 ((rdVar 0 0 L).1 : Nat), .int .i64 ((rdVar 0 0 L).2.1 : Nat), .int .i64 ((rdVar 0 0 L).2.2 : Nat)]) ∧ w' = w
set_option maxRecDepth 100000 in
set_option maxHeartbeats 1000000 in
theorem readVar_any (w : World) (A : Option Addr) (n c : Nat) (L : Bytes) (hL : SBy w A n L) (hn : n ≤ 2 ^ 40) :
    Calls Try.prog 90 #[.slice A n c] w (RvPost L w) := by
  have hl := hL.1
  have HL := Lib.hid hL
  clear hL
  go_enter Try.func90, Try.ntmps90
  go_wp2
  go_loop [5, 10] (fun v i => ∃ (j x : Nat), j ≤ n ∧ j ≤ 10 ∧ i = .int .i64 j ∧ v = .int .u64 x ∧ x < 128 ^ j ∧ rdVar 0 0 L = rdVar j x (L.drop j)) (fun _ i => n - (intOf i).toNat)
  case atStart => exact ⟨0, 0, Nat.zero_le _, Nat.zero_le _, rfl, rfl, by simp, by simp⟩
  case round =>
    obtain ⟨j, x, hj, hj10, rfl, rfl, hx, hr⟩ := hrel
    have HR := Lib.hid hr
    have HX := Lib.hid hx
    clear hr hx
    by_cases hjn : j < n
    · obtain ⟨b, o, rfl, hb, hc⟩ := HL.out.2 (by omega)
      have c0 := hc j hjn
      have hlt := at8_lt L j
      have hd : L.drop j = L[j] :: L.drop (j + 1) := List.drop_eq_getElem_cons (by omega)
      have ha : at8 L j = (L[j]).toNat := at8_get (by omega)
      clear hc
      have HR2 := HR.out
      rw [hd, rdVar_cons, ← ha] at HR2
      generalize at8 L j = y at *
      clear hd ha
      by_cases c1 : j = 10
      · subst c1
        simp only [true_or, if_true] at HR2
        have H2 := Lib.hid HR2
        clear HR2
        go_wp2
        go_ret3
        unfold RvPost
        rw [H2.out]
        exact ⟨rfl, rfl⟩
      · have k1 : ((j : Int) == 10) = false := by simp; omega
        by_cases c2 : j = 9 ∧ 1 < y
        · rw [if_pos (.inr c2)] at HR2
          have H2 := Lib.hid HR2
          obtain ⟨rfl, c3⟩ := c2
          clear HR2 k1
          have k2 : (y : Int) > 1 := by omega
          go_wp2
          go_ret3
          unfold RvPost
          rw [H2.out]
          exact ⟨rfl, rfl⟩
        · rw [if_neg (by omega)] at HR2
          have HS := Lib.hid (var_step x y j HX.out hlt (by omega) (by omega))
          obtain ⟨z, hz⟩ : ∃ z, z = x + y % 128 * 128 ^ j := ⟨_, rfl⟩
          rw [← hz] at HS HR2
          clear hz
          have hS := HS.out.1
          have h127 : bits .and .u8 (y : Int) 128 = ((y &&& 128 : Nat) : Int) := and8 (b := 128) hlt (by decide)
          rw [and128 y hlt] at h127
          have k3 : (((j : Int) == 9) = false) ∨ (((j : Int) == 9) = true ∧ decide ((y : Int) > 1) = false) := by
            by_cases h9 : j = 9
            · exact .inr ⟨by simp; omega, by simp; omega⟩
            · exact .inl (by simp; omega)
          by_cases c4 : 128 ≤ y
          · rw [if_pos c4] at HR2 h127
            have H2 := Lib.hid HR2
            clear HR2 HR
            rcases k3 with k3 | ⟨k3, k4⟩
            all_goals
              go_wp2
              go_round
              case rel => exact ⟨j + 1, _, by omega, by omega, by go_num, rfl, HS.out.2, H2.out⟩
              case measure => simp [intOf]; omega
          · rw [if_neg c4] at HR2 h127
            by_cases c5 : y = 0 ∧ 0 < j
            · rw [if_pos c5] at HR2
              have H2 := Lib.hid HR2
              obtain ⟨rfl, c6⟩ := c5
              clear HR2 HR
              have k5 : (j : Int) > 0 := by omega
              rcases k3 with k3 | ⟨k3, k4⟩
              all_goals
                go_wp2
                go_ret3
                unfold RvPost
                rw [H2.out]
                exact ⟨rfl, rfl⟩
            · rw [if_neg c5] at HR2
              have H2 := Lib.hid HR2
              clear HR2 HR
              by_cases h9 : y = 0
              · subst h9
                rcases k3 with k3 | ⟨k3, k4⟩
                · rw [show ((0 : Nat) : Int) = 0 by rfl] at hS
                  go_wp2
                  go_ret3
                  unfold RvPost
                  rw [H2.out]
                  exact ⟨rfl, rfl⟩
                · exfalso
                  simp at k3
                  omega
              · have k6 : ((y : Int) == 0) = false := by simp; omega
                rcases k3 with k3 | ⟨k3, k4⟩
                all_goals
                  go_wp2
                  go_ret3
                  unfold RvPost
                  rw [H2.out]
                  exact ⟨rfl, rfl⟩
    · obtain rfl : j = n := by omega
      have hd : L.drop j = [] := List.drop_eq_nil_of_le (by omega)
      have HR2 := HR.out
      rw [hd] at HR2
      simp only [rdVar] at HR2
      have H2 := Lib.hid HR2
      clear HR2 hd
      go_wp2
      go_ret3
      unfold RvPost
      rw [H2.out]
      exact ⟨rfl, rfl⟩
end Go.Proofs.Ytgkdggidgaifhaa
