/- ints.Get, ints.Put. ints.Var, ints.ReadVar. crc.half. crc.Sum. slices.Clone of bytes, bytes.Equal, crc.Seal, crc.Open. codec.Frame, codec.ReadFrame. -/
import Derived.Test.YtlmgihnnphmmhaaMA
import Derived.Laws.Tables
namespace Go.Proofs.Ytlmgihnnphmmhaa
open Go.RowKit
set_option linter.unusedVariables false
set_option linter.unusedSimpArgs false

/-- The number of the first k bytes. -/
def le8 (L : Bytes) : Nat → Nat
  | 0 => 0
  | k + 1 => le8 L k + at8 L k * 256 ^ k
theorem le8_lt (L : Bytes) (k : Nat) : le8 L k < 256 ^ k := by
  induction k with
  | zero => simp [le8]
  | succ k ih =>
    have h1 := at8_lt L k
    have h2 : at8 L k * 256 ^ k ≤ 255 * 256 ^ k := Nat.mul_le_mul_right _ (by omega)
    simp only [le8, Nat.pow_succ]
    omega

theorem pow8 (k : Nat) : 256 ^ k = 2 ^ (8 * k) := by rw [Nat.pow_mul]
theorem get_step (L : Bytes) (j : Nat) (hj : j < 8) : bits .or .u64 (le8 L j : Nat) (IntKind.u64.wrap (IntKind.u64.wrap (at8 L j : Nat) * 2 ^ (8 * j))) = (le8 L (j + 1) : Nat) := by
  have h1 := le8_lt L j
  have h2 := le8_lt L (j + 1)
  have h3 := at8_lt L j
  have hp : 256 ^ (j + 1) ≤ 256 ^ 8 := Nat.pow_le_pow_right (by omega) (by omega)
  have hq : 256 ^ j ≤ 256 ^ 8 := Nat.pow_le_pow_right (by omega) (by omega)
  have e8 : (256 : Nat) ^ 8 = 18446744073709551616 := by decide
  rw [w64_of (n := at8 L j) (by omega)]
  have e : ((at8 L j : Nat) : Int) * 2 ^ (8 * j) = ((at8 L j * 256 ^ j : Nat) : Int) := by rw [pow8]; simp
  have hb : at8 L j * 256 ^ j < 18446744073709551616 := by
    have : at8 L j * 256 ^ j ≤ le8 L (j + 1) := by simp [le8]
    omega
  rw [e, w64_of hb, or64 (by omega) hb, pow8, or_sum (by rw [← pow8]; exact h1), ← pow8]
  rfl

set_option maxHeartbeats 1000000 in
theorem get_any (w : World) (A : Option Addr) (n c : Nat) (L : Bytes) (k : Nat) (hL : SBy w A n L) (hk : k ≤ n) (h8 : k ≤ 8) (hn : n ≤ maxLen) :
    Calls Try.prog 85 #[.slice A n c, .int .i64 k] w fun e w' => e = .returned (.tuple #[.int .u64 (le8 L k), .bool true]) ∧ w' = w := by
  unfold maxLen at hn
  have d1 : ¬ (k : Int) < 0 := by omega
  have d2 : ¬ (k : Int) > 8 := by omega
  have d3 : ¬ (n : Int) < (k : Int) := by omega
  go_enter Try.func85, Try.ntmps85
  go_wp2
  go_loop [6, 21] (fun v i => ∃ j : Nat, j ≤ k ∧ i = .int .i64 j ∧ v = .int .u64 (le8 L j)) (fun _ i => k - (intOf i).toNat)
  case atStart => exact ⟨0, Nat.zero_le _, rfl, rfl⟩
  case round =>
    obtain ⟨j, hj, rfl, rfl⟩ := hrel
    by_cases hjk : j < k
    · obtain ⟨b, o, rfl, hb, hc⟩ := hL.2 (by omega)
      have c0 := hc j (by omega)
      clear hc
      have HG := Lib.hid (get_step L j (by omega))
      go_wp2
      go_round
      case rel => exact ⟨j + 1, by omega, by go_num, by rw [HG.out]⟩
      case measure => simp [intOf]; omega
    · obtain rfl : j = k := by omega
      go_wp2
      go_ret2
      exact ⟨rfl, rfl⟩

/-- The lowest n bytes of a number. -/
def leB (V n : Nat) : Bytes := (List.range n).map fun i => b8 (V / 256 ^ i % 256)
theorem leB_length (V n : Nat) : (leB V n).length = n := by simp [leB]
theorem leB_succ (V n : Nat) : leB V (n + 1) = leB V n ++ [b8 (V / 256 ^ n % 256)] := by simp [leB, List.range_succ]

set_option maxHeartbeats 1000000 in
theorem put_any (w : World) (A : Option Addr) (n c : Nat) (L : Bytes) (V k : Nat) (hL : SBy w A n L) (hV : V < 18446744073709551616) (h8 : k ≤ 8) (hn : n ≤ 2 ^ 40) :
    Calls Try.prog 75 #[.slice A n c, .int .u64 V, .int .i64 k] w fun e w' => ∃ A' c', e = .returned (.slice A' (n + k) c') ∧ FrB w w' (.slice A' (n + k) c') (L ++ leB V k) := by
  have hl := hL.1
  have HL := Lib.hid hL
  have HV := Lib.hid hV
  clear hL hV
  have m1 : max (k : Int) 0 = k := by omega
  have m2 : min (k : Int) 64 = k := by omega
  go_enter Try.func75, Try.ntmps75
  go_wp2_with (at_builtin; go_must (refine wpList_appF rfl (.tmp 9) (.tmp 10) rfl w (.slice (some ⟨w.heap.size, 0, none⟩) 0 0) [] L rfl (FrB.lit w) A n c rfl (HL.out.alloc _) (by simp; omega) n (by simp) ?_); intro A' c' w1 h1 hg)
  have H1 := Lib.hid h1
  clear h1 hg
  go_loopw [7, 15] (fun v i wr => ∃ (j : Nat) (A' : Option Addr) (c' : Nat), j ≤ k ∧ i = .int .i64 j ∧ v = .slice A' (n + j) c' ∧ FrB w wr v (L ++ leB V j)) (fun _ i _ => k - (intOf i).toNat)
  case atStart => exact ⟨0, _, _, Nat.zero_le _, rfl, rfl, by simpa [leB] using H1.out⟩
  case round =>
    obtain ⟨j, A', c', hj, rfl, rfl, hf⟩ := hrel
    clear H1
    have HF := Lib.hid hf
    clear hf
    by_cases hjk : j < k
    · have e1 : (V : Int) / 2 ^ (8 * j) = ((V / 256 ^ j : Nat) : Int) := by rw [pow8]; simp
      have e2 := w8 (V / 256 ^ j)
      have hm : V / 256 ^ j % 256 < 256 := Nat.mod_lt _ (by omega)
      have j8 : ((j : Nat) : Int) < 8 := by omega
      go_wp2_with (at_builtin; go_must (refine wpList_appF rfl (.tmp 20) (.tmp 26) rfl w (.slice A' (n + j) c') (L ++ leB V j) [b8 (V / 256 ^ j % 256)] rfl (HF.out.alloc _) (some ⟨wr.heap.size, 0, none⟩) 1 1 rfl (SBy.one wr hm _) (by simp [leB_length]; omega) (n + (j + 1)) (by simp [leB_length]; omega) ?_); intro A2 c2 w2 h2 hg2)
      rw [List.append_assoc, ← leB_succ] at h2
      have H2 := Lib.hid h2
      clear h2 hg2 HF
      go_wp2
      go_roundw
      case rel => exact ⟨j + 1, _, _, by omega, by go_num, rfl, H2.out⟩
      case measure => simp [intOf]; omega
    · obtain rfl : j = k := by omega
      go_wp2
      go_ret
      exact ⟨_, _, rfl, HF.out⟩
end Go.Proofs.Ytlmgihnnphmmhaa
namespace Go.Proofs.Ytlmgihnnphmmhaa
open Go.RowKit
set_option linter.unusedVariables false
set_option linter.unusedSimpArgs false

/-- A number, seven bits a byte. -/
def varB (v : Nat) : Bytes := if v < 128 then [b8 v] else b8 (v % 128 + 128) :: varB (v / 128)
termination_by v
decreasing_by omega
theorem varB_lo {v : Nat} (h : v < 128) : varB v = [b8 v] := by rw [varB]; simp [h]
theorem varB_hi {v : Nat} (h : 128 ≤ v) : varB v = b8 (v % 128 + 128) :: varB (v / 128) := by rw [varB]; simp [show ¬ v < 128 by omega]
theorem varB_pos (v : Nat) : 0 < (varB v).length := by rw [varB]; split <;> simp
theorem varB_le : ∀ (k : Nat) (v : Nat), v < 128 ^ (k + 1) → (varB v).length ≤ k + 1 := by
  intro k
  induction k with
  | zero => intro v h; rw [varB_lo (by simpa using h)]; simp
  | succ k ih =>
    intro v h
    by_cases h1 : v < 128
    · rw [varB_lo h1]; simp
    · rw [varB_hi (by omega)]
      have := ih (v / 128) (by rw [Nat.pow_succ] at h; omega)
      simp; omega
theorem varB_10 {v : Nat} (h : v < 18446744073709551616) : (varB v).length ≤ 10 := by
  have e : (128 : Nat) ^ (9 + 1) = 1180591620717411303424 := by decide
  exact varB_le 9 v (by omega)
set_option maxRecDepth 100000 in
theorem or128 : ∀ x : Nat, x < 256 → x ||| 128 = x % 128 + 128 := by decide
theorem or8_128 (n : Nat) : bits .or .u8 ((n % 256 : Nat) : Int) 128 = ((n % 128 + 128 : Nat) : Int) := by
  have h : n % 256 < 256 := Nat.mod_lt _ (by omega)
  have := or8 (a := n % 256) (b := 128) h (by omega)
  rw [show ((128 : Nat) : Int) = 128 by rfl] at this
  rw [this, or128 _ h]
  congr 1
  omega

set_option maxRecDepth 100000 in
set_option maxHeartbeats 1000000 in
theorem var_any (w : World) (A : Option Addr) (n c : Nat) (L : Bytes) (V : Nat) (hL : SBy w A n L) (hV : V < 18446744073709551616) (hn : n ≤ 2 ^ 40) :
    Calls Try.prog 109 #[.slice A n c, .int .u64 V] w fun e w' => ∃ A' n' c', e = .returned (.slice A' n' c') ∧ FrB w w' (.slice A' n' c') (L ++ varB V) := by
  have hl := hL.1
  have HL := Lib.hid hL
  have HV := Lib.hid hV
  clear hL hV
  go_enter Try.func109, Try.ntmps109
  go_wp2_with (at_builtin; go_must (refine wpList_appF rfl (.tmp 6) (.tmp 7) rfl w (.slice (some ⟨w.heap.size, 0, none⟩) 0 0) [] L rfl (FrB.lit w) A n c rfl (HL.out.alloc _) (by simp; omega) n (by simp) ?_); intro A' c' w1 h1 hg)
  have H1 := Lib.hid h1
  clear h1 hg
  go_loopw [1, 5] (fun u v wr => ∃ (x : Nat) (pre : Bytes) (A' : Option Addr) (c' : Nat), u = .int .u64 x ∧ x ≤ V ∧ varB V = pre ++ varB x ∧ v = .slice A' (n + pre.length) c' ∧ FrB w wr v (L ++ pre)) (fun u _ _ => (intOf u).toNat)
  case atStart => exact ⟨V, [], _, _, rfl, Nat.le_refl _, rfl, rfl, by simpa using H1.out⟩
  case round =>
    obtain ⟨x, pre, A', c', rfl, hx, hp, rfl, hf⟩ := hrel
    clear H1
    have HF := Lib.hid hf
    have hp10 : pre.length ≤ 10 := by have h1 := varB_10 HV.out; have h2 := varB_pos x; rw [hp, List.length_append] at h1; omega
    have HP := Lib.hid hp
    clear hf hp
    have e2 := w8 x
    by_cases hbig : 128 ≤ x
    · have e3 := or8_128 x
      simp at e3
      have hm : x % 128 + 128 < 256 := by omega
      go_wp2_with (at_builtin; go_must (refine wpList_appF rfl (.tmp 13) (.tmp 17) rfl w (.slice A' (n + pre.length) c') (L ++ pre) [b8 (x % 128 + 128)] rfl (HF.out.alloc _) (some ⟨wr.heap.size, 0, none⟩) 1 1 rfl (SBy.oneI wr (x % 128 + 128) hm (by simp [e3]) _) (by simp; omega) (n + (pre.length + 1)) (by simp; omega) ?_); intro A2 c2 w2 h2 hg2)
      rw [List.append_assoc] at h2
      have H2 := Lib.hid h2
      clear h2 hg2 HF
      go_wp2
      go_roundw
      case rel => exact ⟨x / 128, pre ++ [b8 (x % 128 + 128)], A2, c2, by simp, by omega, by rw [HP.out, varB_hi hbig]; simp, by simp, H2.out⟩
      case measure => simp [intOf]; omega
    · have hm : x % 256 < 256 := by omega
      have h3 : x < 128 := by omega
      go_wp2_with (at_builtin; go_must (refine wpList_appF rfl (.tmp 19) (.tmp 22) rfl w (.slice A' (n + pre.length) c') (L ++ pre) [b8 (x % 256)] rfl (HF.out.alloc _) (some ⟨wr.heap.size, 0, none⟩) 1 1 rfl (SBy.one wr hm _) (by simp; omega) (n + (pre ++ [b8 (x % 256)]).length) (by simp; omega) ?_); intro A2 c2 w2 h2 hg2)
      rw [List.append_assoc] at h2
      have H2 := Lib.hid h2
      clear h2 hg2 HF
      go_wp2
      go_ret
      refine ⟨_, _, _, rfl, ?_⟩
      rw [HP.out, varB_lo h3, show b8 x = b8 (x % 256) by rw [Nat.mod_eq_of_lt (by omega)]]
      simpa using H2.out

/-- What ReadVar answers, behind i bytes that made v: the number, the bytes that it took, the error. -/
def rdVar : Nat → Nat → Bytes → Nat × Nat × Nat
  | _, _, [] => (0, 0, 21)
  | i, v, c :: r => if i = 10 ∨ (i = 9 ∧ 1 < c.toNat) then (0, 0, 22) else
      if 128 ≤ c.toNat then rdVar (i + 1) (v + c.toNat % 128 * 128 ^ i) r else
        if c.toNat = 0 ∧ 0 < i then (0, 0, 22) else (v + c.toNat % 128 * 128 ^ i, i + 1, 0)
theorem rdVar_cons (i v : Nat) (c : UInt8) (r : Bytes) : rdVar i v (c :: r) = if i = 10 ∨ (i = 9 ∧ 1 < c.toNat) then (0, 0, 22) else
      if 128 ≤ c.toNat then rdVar (i + 1) (v + c.toNat % 128 * 128 ^ i) r else
        if c.toNat = 0 ∧ 0 < i then (0, 0, 22) else (v + c.toNat % 128 * 128 ^ i, i + 1, 0) := rfl
set_option maxRecDepth 100000 in
theorem and128 : ∀ x : Nat, x < 256 → x &&& 128 = if 128 ≤ x then 128 else 0 := by decide
theorem rdVar_back : ∀ (k V i v : Nat) (r : Bytes), V < 128 ^ (k + 1) → i + k ≤ 9 → (i + k = 9 → V * 128 ^ i < 18446744073709551616) → (0 < i → 0 < V) → rdVar i v (varB V ++ r) = (v + V * 128 ^ i, i + (varB V).length, 0) := by
  intro k
  induction k with
  | zero =>
    intro V i v r h hi h9 h0
    have hV : V < 128 := by simpa using h
    rw [varB_lo hV]
    have e1 : (b8 V).toNat = V := b8_lt (by omega)
    have n1 : ¬ (i = 10 ∨ (i = 9 ∧ 1 < V)) := by
      rintro (h1 | ⟨h1, h2⟩)
      · omega
      · subst h1
        have := h9 rfl
        have e : (128 : Nat) ^ 9 = 9223372036854775808 := by decide
        omega
    have n2 : ¬ 128 ≤ V := by omega
    have n3 : ¬ (V = 0 ∧ 0 < i) := by omega
    simp only [List.cons_append, rdVar, e1, n1, n2, n3, if_false, Nat.mod_eq_of_lt hV, List.length_cons, List.length_nil]
  | succ k ih =>
    intro V i v r h hi h9 h0
    by_cases hV : V < 128
    · rw [varB_lo hV]
      have e1 : (b8 V).toNat = V := b8_lt (by omega)
      have n1 : ¬ (i = 10 ∨ (i = 9 ∧ 1 < V)) := by omega
      have n2 : ¬ 128 ≤ V := by omega
      have n3 : ¬ (V = 0 ∧ 0 < i) := by omega
      simp only [List.cons_append, rdVar, e1, n1, n2, n3, if_false, Nat.mod_eq_of_lt hV, List.length_cons, List.length_nil]
    · rw [varB_hi (by omega)]
      have e1 : (b8 (V % 128 + 128)).toNat = V % 128 + 128 := b8_lt (by omega)
      have n1 : ¬ (i = 10 ∨ (i = 9 ∧ 1 < V % 128 + 128)) := by omega
      have n2 : 128 ≤ V % 128 + 128 := by omega
      have hm : (V % 128 + 128) % 128 = V % 128 := by omega
      have hd : V / 128 * 128 ^ (i + 1) = V / 128 * 128 * 128 ^ i := by rw [Nat.pow_succ, Nat.mul_comm (128 ^ i) 128, Nat.mul_assoc]
      have hs : V % 128 * 128 ^ i + V / 128 * 128 * 128 ^ i = V * 128 ^ i := by rw [← Nat.add_mul]; congr 1; omega
      simp only [List.cons_append, rdVar, e1, n1, n2, if_false, if_true, hm, List.length_cons]
      rw [ih (V / 128) (i + 1) _ r (by rw [Nat.pow_succ] at h; omega) (by omega) (fun h2 => by
        have := h9 (by omega)
        omega) (fun _ => by omega)]
      rw [hd]
      simp only [Prod.mk.injEq, and_true]
      exact ⟨by omega, by omega⟩
theorem rdVar_var {V : Nat} (r : Bytes) (h : V < 18446744073709551616) : rdVar 0 0 (varB V ++ r) = (V, (varB V).length, 0) := by
  have e : (128 : Nat) ^ (9 + 1) = 1180591620717411303424 := by decide
  rw [rdVar_back 9 V 0 0 r (by omega) (by omega) (by simp; omega) (by omega)]
  simp
theorem var_step (v x i : Nat) (hv : v < 128 ^ i) (hx : x < 256) (hi : i ≤ 9) (h9 : i = 9 → x ≤ 1) :
    bits .or .u64 (v : Int) (IntKind.u64.wrap (IntKind.u64.wrap (bits .and .u8 (x : Int) 127) * 2 ^ (7 * i))) = ((v + x % 128 * 128 ^ i : Nat) : Int) ∧ v + x % 128 * 128 ^ i < 128 ^ (i + 1) := by
  have e0 : bits .and .u8 (x : Int) 127 = ((x % 128 : Nat) : Int) := by rw [u8_and127 _ (by omega) (by omega)]; simp
  have hm : x % 128 < 128 := Nat.mod_lt _ (by omega)
  have ep : (128 : Nat) ^ i = 2 ^ (7 * i) := by rw [Nat.pow_mul]
  have e1 : ((x % 128 : Nat) : Int) * 2 ^ (7 * i) = ((x % 128 * 128 ^ i : Nat) : Int) := by rw [ep]; simp
  have hle : x % 128 * 128 ^ i ≤ 127 * 128 ^ i := Nat.mul_le_mul_right _ (by omega)
  have hlt : v + x % 128 * 128 ^ i < 128 ^ (i + 1) := by rw [Nat.pow_succ]; omega
  have hb : x % 128 * 128 ^ i < 18446744073709551616 ∧ v < 18446744073709551616 := by
    rcases Nat.lt_or_ge i 9 with h | h
    · have hp : 128 ^ (i + 1) ≤ 128 ^ 9 := Nat.pow_le_pow_right (by omega) (by omega)
      have e : (128 : Nat) ^ 9 = 9223372036854775808 := by decide
      omega
    · have : i = 9 := by omega
      subst this
      have e : (128 : Nat) ^ 9 = 9223372036854775808 := by decide
      have := h9 rfl
      have h2 : x % 128 ≤ 1 := by omega
      have h3 : x % 128 * 128 ^ 9 ≤ 1 * 128 ^ 9 := Nat.mul_le_mul_right _ h2
      omega
  refine ⟨?_, hlt⟩
  rw [e0, w64_of (n := x % 128) (by omega), e1, w64_of hb.1, or64 hb.2 hb.1, ep, or_sum (by rw [← ep]; exact hv)]

def RvPost (L : Bytes) (w : World) (e : Ending) (w' : World) : Prop := e = .returned (.tuple #[.int .u64 ((rdVar 0 0 L).1 : Nat), .int .i64 ((rdVar 0 0 L).2.1 : Nat), .int .i64 ((rdVar 0 0 L).2.2 : Nat)]) ∧ w' = w
set_option maxRecDepth 100000 in
set_option maxHeartbeats 1000000 in
theorem readVar_any (w : World) (A : Option Addr) (n c : Nat) (L : Bytes) (hL : SBy w A n L) (hn : n ≤ 2 ^ 40) :
    Calls Try.prog 111 #[.slice A n c] w (RvPost L w) := by
  have hl := hL.1
  have HL := Lib.hid hL
  clear hL
  go_enter Try.func111, Try.ntmps111
  go_wp2
  go_loop [5, 10] (fun v i => ∃ (j x : Nat), j ≤ n ∧ j ≤ 10 ∧ i = .int .i64 j ∧ v = .int .u64 x ∧ x < 128 ^ j ∧ rdVar 0 0 L = rdVar j x (L.drop j)) (fun _ i => n - (intOf i).toNat)
  case atStart => exact ⟨0, 0, Nat.zero_le _, Nat.zero_le _, rfl, rfl, by simp, by simp⟩
  case round =>
    obtain ⟨j, x, hj, hj10, rfl, rfl, hx, hr⟩ := hrel
    have HR := Lib.hid hr
    have HX := Lib.hid hx
    clear hr hx
    by_cases hjn : j < n
    · obtain ⟨b, o, rfl, hb, hc⟩ := HL.out.2 (by omega)
      have c0 := hc j hjn
      have hlt := at8_lt L j
      have hd : L.drop j = L[j] :: L.drop (j + 1) := List.drop_eq_getElem_cons (by omega)
      have ha : at8 L j = (L[j]).toNat := at8_get (by omega)
      clear hc
      have HR2 := HR.out
      rw [hd, rdVar_cons, ← ha] at HR2
      generalize at8 L j = y at *
      clear hd ha
      by_cases c1 : j = 10
      · subst c1
        simp only [true_or, if_true] at HR2
        have H2 := Lib.hid HR2
        clear HR2
        go_wp2
        go_ret3
        unfold RvPost
        rw [H2.out]
        exact ⟨rfl, rfl⟩
      · have k1 : ((j : Int) == 10) = false := by simp; omega
        by_cases c2 : j = 9 ∧ 1 < y
        · rw [if_pos (.inr c2)] at HR2
          have H2 := Lib.hid HR2
          obtain ⟨rfl, c3⟩ := c2
          clear HR2 k1
          have k2 : (y : Int) > 1 := by omega
          go_wp2
          go_ret3
          unfold RvPost
          rw [H2.out]
          exact ⟨rfl, rfl⟩
        · rw [if_neg (by omega)] at HR2
          have HS := Lib.hid (var_step x y j HX.out hlt (by omega) (by omega))
          obtain ⟨z, hz⟩ : ∃ z, z = x + y % 128 * 128 ^ j := ⟨_, rfl⟩
          rw [← hz] at HS HR2
          clear hz
          have hS := HS.out.1
          have h127 : bits .and .u8 (y : Int) 128 = ((y &&& 128 : Nat) : Int) := and8 (b := 128) hlt (by decide)
          rw [and128 y hlt] at h127
          have k3 : (((j : Int) == 9) = false) ∨ (((j : Int) == 9) = true ∧ decide ((y : Int) > 1) = false) := by
            by_cases h9 : j = 9
            · exact .inr ⟨by simp; omega, by simp; omega⟩
            · exact .inl (by simp; omega)
          by_cases c4 : 128 ≤ y
          · rw [if_pos c4] at HR2 h127
            have H2 := Lib.hid HR2
            clear HR2 HR
            rcases k3 with k3 | ⟨k3, k4⟩
            all_goals
              go_wp2
              go_round
              case rel => exact ⟨j + 1, _, by omega, by omega, by go_num, rfl, HS.out.2, H2.out⟩
              case measure => simp [intOf]; omega
          · rw [if_neg c4] at HR2 h127
            by_cases c5 : y = 0 ∧ 0 < j
            · rw [if_pos c5] at HR2
              have H2 := Lib.hid HR2
              obtain ⟨rfl, c6⟩ := c5
              clear HR2 HR
              have k5 : (j : Int) > 0 := by omega
              rcases k3 with k3 | ⟨k3, k4⟩
              all_goals
                go_wp2
                go_ret3
                unfold RvPost
                rw [H2.out]
                exact ⟨rfl, rfl⟩
            · rw [if_neg c5] at HR2
              have H2 := Lib.hid HR2
              clear HR2 HR
              by_cases h9 : y = 0
              · subst h9
                rcases k3 with k3 | ⟨k3, k4⟩
                · rw [show ((0 : Nat) : Int) = 0 by rfl] at hS
                  go_wp2
                  go_ret3
                  unfold RvPost
                  rw [H2.out]
                  exact ⟨rfl, rfl⟩
                · exfalso
                  simp at k3
                  omega
              · have k6 : ((y : Int) == 0) = false := by simp; omega
                rcases k3 with k3 | ⟨k3, k4⟩
                all_goals
                  go_wp2
                  go_ret3
                  unfold RvPost
                  rw [H2.out]
                  exact ⟨rfl, rfl⟩
    · obtain rfl : j = n := by omega
      have hd : L.drop j = [] := List.drop_eq_nil_of_le (by omega)
      have HR2 := HR.out
      rw [hd] at HR2
      simp only [rdVar] at HR2
      have H2 := Lib.hid HR2
      clear HR2 hd
      go_wp2
      go_ret3
      unfold RvPost
      rw [H2.out]
      exact ⟨rfl, rfl⟩
end Go.Proofs.Ytlmgihnnphmmhaa
namespace Go.Proofs.Ytlmgihnnphmmhaa
open Go.RowKit
set_option linter.unusedVariables false
set_option linter.unusedSimpArgs false

/-- One bit's step of the sum. -/
def bit1 (v : Nat) : Nat := (v / 2) ^^^ (v % 2 * 2197175160)
theorem bit1_lt {v : Nat} (h : v < 4294967296) : bit1 v < 4294967296 := by
  unfold bit1
  exact Nat.xor_lt_two_pow (n := 32) (by omega) (by have := Nat.mod_lt v (show 2 > 0 by omega); omega)
def bitN : Nat → Nat → Nat
  | 0, v => v
  | k + 1, v => bit1 (bitN k v)
theorem bitN_lt (k : Nat) {v : Nat} (h : v < 4294967296) : bitN k v < 4294967296 := by
  induction k with
  | zero => exact h
  | succ k ih => exact bit1_lt ih
/-- The sums of four bits. -/
def tab (i : Nat) : Nat := bitN 4 i
theorem tab_lt {i : Nat} (h : i < 16) : tab i < 4294967296 := bitN_lt 4 (by omega)
def halfA (k : Nat) : Array Value := Array.ofFn (n := 16) fun i => .int .u32 (if i.val < k then tab i.val else 0 : Nat)
theorem halfA_size (k : Nat) : (halfA k).size = 16 := by simp [halfA]
theorem halfA_at (k j : Nat) (h : j < 16) : (halfA k)[j]? = some (.int .u32 (if j < k then tab j else 0 : Nat)) := by simp [halfA, h]
theorem halfA_succ (k : Nat) (hk : k < 16) : (halfA k).setIfInBounds k (.int .u32 (tab k : Nat)) = halfA (k + 1) := by
  apply Array.ext_getElem?
  intro j
  rw [Array.getElem?_setIfInBounds, halfA_size]
  by_cases hj : j < 16
  · rw [halfA_at _ _ hj, halfA_at _ _ hj]
    by_cases h2 : k = j
    · subst h2; simp [hk]
    · rw [if_neg h2]
      have : (j < k) = (j < k + 1) := by apply propext; omega
      simp only [this]
  · rw [Array.getElem?_eq_none (by rw [halfA_size]; omega), Array.getElem?_eq_none (by rw [halfA_size]; omega)]
    by_cases h2 : k = j <;> simp [h2]; omega
theorem and1 (v : Nat) (h : v < 4294967296) : bits .and .u32 (v : Int) 1 = ((v % 2 : Nat) : Int) := by
  have := and32 (a := v) (b := 1) h (by decide)
  rw [show ((1 : Nat) : Int) = 1 by rfl] at this
  rw [this, Nat.and_one_is_mod]
theorem bit1_step (v : Nat) (h : v < 4294967296) : bits .xor .u32 ((v : Int) / 2) (bits .and .u32 (v : Int) 1 * 2197175160 % 4294967296) = (bit1 v : Nat) := by
  rw [← IntKind.wrap_u32]
  have hm := Nat.mod_lt v (show 2 > 0 by omega)
  rw [and1 v h]
  have e1 : ((v % 2 : Nat) : Int) * 2197175160 = ((v % 2 * 2197175160 : Nat) : Int) := by simp
  have e2 : (v : Int) / 2 = ((v / 2 : Nat) : Int) := by simp
  rw [e1, e2, w32_of (by omega), xor32 (by omega) (by omega)]
  rfl
theorem info16 : (Try.prog.info? 154).map (·.size) = some 16 := by kernel_rfl

/-- The two rows of half. -/
structure HalfAt (w wr : World) (k : Nat) : Prop where
  bel : Below w.heap.size w wr
  size : wr.heap.size = w.heap.size + 1 + 1
  r0 : wr.heap[w.heap.size]? = some (.cells (halfA 0) 154 (0, 0))
  r1 : wr.heap[w.heap.size + 1]? = some (.cells (halfA k) 154 (0, 0))

theorem HalfAt.start (w : World) : HalfAt w ((w.alloc (.cells (halfA 0) 154)).alloc (.cells (halfA 0) 154)) 0 :=
  ⟨((Below.refl _ _).alloc (Nat.le_refl _) _).alloc (by simp) _, by simp, heap_alloc2_old _ _ _, heap_alloc2_new _ _ _⟩
theorem HalfAt.step {w wr : World} {k : Nat} (h : HalfAt w wr k) (hk : k < 16) : HalfAt w (wr.setCell ⟨w.heap.size + 1, k, none⟩ (.int .u32 (tab k : Nat))) (k + 1) := by
  refine ⟨h.bel.setCell (by simp) _, by simp [World.setCell, h.size], ?_, ?_⟩
  · rw [heap_setCell_other _ _ _ _ (by simp)]; exact h.r0
  · rw [heap_setCell_same _ _ _ _ _ _ h.r1, halfA_succ k hk]
theorem HalfAt.last {w wr : World} {k : Nat} (h : HalfAt w wr k) : Below w.heap.size w (wr.setRow w.heap.size (halfA k)) ∧ (wr.setRow w.heap.size (halfA k)).heap[w.heap.size]? = some (.cells (halfA k) 154 (0, 0)) :=
  ⟨⟨h.bel.os, h.bel.tape, h.bel.output, by rw [size_setRow]; exact h.bel.size, fun j hj => (setRow_other wr _ j _ (by omega)).trans (h.bel.block j hj)⟩, setRow_heap _ _ _ _ _ _ h.r0⟩
theorem halfA_ones (k : Nat) : (halfA k).all (·.oneCell') = true := by
  rw [Array.all_eq_true_iff_forall_mem]
  intro x hx
  simp only [halfA, Array.mem_ofFn] at hx
  obtain ⟨i, rfl⟩ := hx
  rfl

set_option maxRecDepth 100000 in
set_option maxHeartbeats 1000000 in
theorem half_any (w : World) : Calls Try.prog 107 #[] w fun e w' => e = .returned (.agg (halfA 16)) ∧ Below w.heap.size w w' := by
  go_enter Try.func107, Try.ntmps107
  go_upto_region 2 with (fail)
  refine wp_forget (fun W => HalfAt w W 0) (HalfAt.start w) ?_
  intro w1 h1
  have H1 := Lib.hid h1
  clear h1
  go_wp2
  go_loopw [4] (fun i wr => ∃ k : Nat, k ≤ 16 ∧ i = .int .i64 k ∧ HalfAt w wr k) (fun i _ => 16 - (intOf i).toNat)
  case atStart => exact ⟨0, by omega, rfl, H1.out⟩
  case round =>
    obtain ⟨k, hk, rfl, hh⟩ := hrel
    clear H1
    have H := Lib.hid hh
    clear hh
    by_cases hk2 : k < 16
    · obtain ⟨wo, rfl⟩ : ∃ wo : World, wo = wr := ⟨_, rfl⟩
      have e0 := w32_of (n := k) (by omega)
      go_wp2
      go_loop [3, 9] (fun v i => ∃ j : Nat, j ≤ 4 ∧ i = .int .i64 j ∧ v = .int .u32 (bitN j k : Nat)) (fun _ i => 4 - (intOf i).toNat)
      case atStart => exact ⟨0, by omega, rfl, rfl⟩
      case round =>
        obtain ⟨j, hj, rfl, rfl⟩ := hrel
        by_cases hj2 : j < 4
        · have HB := Lib.hid (bit1_step (bitN j k) (bitN_lt j (by omega)))
          go_wp2
          go_round
          case rel => exact ⟨j + 1, by omega, by go_num, by rw [HB.out]; rfl⟩
          case measure => simp [intOf]; omega
        · obtain rfl : j = 4 := by omega
          have hc : wo.cell? ⟨w.heap.size + 1, k, none⟩ = some (.int .u32 (0 : Nat)) := by rw [cell_of_row _ _ _ _ _ _ H.out.r1, halfA_at _ _ hk2]; simp
          have hz : wo.frozen? ⟨w.heap.size + 1, k, none⟩ = false := frozen_of_row _ _ _ _ _ H.out.r1
          have HN := Lib.hid (H.out.step hk2)
          clear H
          go_wp2
          go_roundw
          case rel => exact ⟨k + 1, by omega, by go_num, HN.out⟩
          case measure => simp [intOf]; omega
    · obtain rfl : k = 16 := by omega
      have HE := Lib.hid H.out.last
      have r0 := H.out.r0
      have r1 := H.out.r1
      clear H
      go_wp2_with (first | ((refine wpList_load_row rfl 154 (.tmp 1) rfl (w.heap.size + 1) rfl 154 (halfA 16) (0, 0) _ r1 Try.underlying154 rfl (by rw [halfA_size]; exact info16) ?_)) | ((refine wpList_store_row rfl 154 (.tmp 0) (.tmp 22) rfl w.heap.size (halfA 16) rfl rfl 154 (halfA 0) r0 (by rw [halfA_size]; exact info16) (by rw [halfA_size, halfA_size]) (halfA_ones 16) ?_)))
      refine bodyPost_ret (results_cell_row rfl _ _ w.heap.size _ (halfA 16) (0, 0) _ rfl HE.out.2 Try.underlying154 rfl (by rw [halfA_size]; exact info16)) rfl ?_
      exact ⟨rfl, HE.out.1⟩
end Go.Proofs.Ytlmgihnnphmmhaa
namespace Go.Proofs.Ytlmgihnnphmmhaa
open Go.RowKit
set_option linter.unusedVariables false
set_option linter.unusedSimpArgs false

theorem bit1_xor (a b : Nat) : bit1 (a ^^^ b) = bit1 a ^^^ bit1 b := by
  unfold bit1
  have h1 : (a ^^^ b) / 2 = (a / 2) ^^^ (b / 2) := by
    have := Nat.shiftRight_xor_distrib (a := a) (b := b) (i := 1)
    simpa [Nat.shiftRight_succ] using this
  have h2 : (a ^^^ b) % 2 = (a % 2) ^^^ (b % 2) := by simpa using Nat.xor_mod_two_pow (n := 1) (a := a) (b := b)
  rw [h1, h2]
  have ha := Nat.mod_two_eq_zero_or_one a
  have hb := Nat.mod_two_eq_zero_or_one b
  generalize a / 2 = x
  generalize b / 2 = y
  rcases ha with ha | ha <;> rcases hb with hb | hb <;> rw [ha, hb] <;> simp
  · rw [Nat.xor_assoc]
  · rw [Nat.xor_assoc, Nat.xor_assoc, Nat.xor_comm 2197175160 y]
  · rw [Nat.xor_assoc x, ← Nat.xor_assoc 2197175160, Nat.xor_comm 2197175160 y, Nat.xor_assoc y, Nat.xor_self, Nat.xor_zero]
theorem bitN_xor (k a b : Nat) : bitN k (a ^^^ b) = bitN k a ^^^ bitN k b := by
  induction k with
  | zero => rfl
  | succ k ih => simp only [bitN, ih, bit1_xor]
theorem bitN_add (j k v : Nat) : bitN (j + k) v = bitN j (bitN k v) := by
  induction j with
  | zero => simp [bitN]
  | succ j ih => rw [Nat.succ_add]; simp only [bitN, ih]
theorem bit1_even (h : Nat) : bit1 (2 * h) = h := by simp [bit1]
theorem bitN_shift (k h : Nat) : bitN k (2 ^ k * h) = h := by
  induction k generalizing h with
  | zero => simp [bitN]
  | succ k ih =>
    rw [bitN_add k 1, show 2 ^ (k + 1) * h = 2 * (2 ^ k * h) by rw [Nat.pow_succ, Nat.mul_comm (2 ^ k) 2, Nat.mul_assoc]]
    show bitN k (bit1 (2 * (2 ^ k * h))) = h
    rw [bit1_even, ih]
theorem split16 (v : Nat) : v = (2 ^ 4 * (v / 16)) ^^^ (v % 16) := by
  apply Nat.eq_of_testBit_eq
  intro i
  rw [Nat.testBit_xor, Nat.testBit_two_pow_mul, show v % 16 = v % 2 ^ 4 by rfl, Nat.testBit_mod_two_pow, show v / 16 = v / 2 ^ 4 by rfl, Nat.testBit_div_two_pow]
  by_cases h : i < 4
  · simp [h, show ¬ 4 ≤ i by omega]
  · simp [h, show 4 ≤ i by omega]
theorem nib (v : Nat) : (v / 16) ^^^ tab (v % 16) = bitN 4 v := by
  conv => rhs; rw [split16 v]
  rw [bitN_xor, bitN_shift]
  rfl
/-- One byte's step. -/
def byte1 (v : Nat) (x : UInt8) : Nat := bitN 8 (v ^^^ x.toNat)
def sumGo (v : Nat) (L : Bytes) : Nat := L.foldl byte1 v
/-- The sum of bytes. -/
def sumOf (L : Bytes) : Nat := sumGo 4294967295 L ^^^ 4294967295
theorem byte1_lt {v : Nat} (h : v < 4294967296) (x : UInt8) : byte1 v x < 4294967296 :=
  bitN_lt 8 (Nat.xor_lt_two_pow (n := 32) h (by have := UInt8.toNat_lt x; omega))
theorem sumGo_lt {v : Nat} (h : v < 4294967296) (L : Bytes) : sumGo v L < 4294967296 := by
  induction L generalizing v with
  | nil => exact h
  | cons x L ih => exact ih (byte1_lt h x)
theorem sumOf_lt (L : Bytes) : sumOf L < 4294967296 := Nat.xor_lt_two_pow (n := 32) (sumGo_lt (by omega) L) (by omega)
theorem sumGo_take {v : Nat} {L : Bytes} {j : Nat} (h : j < L.length) : sumGo v (L.take (j + 1)) = byte1 (sumGo v (L.take j)) (L[j]) := by
  unfold sumGo
  rw [List.take_succ_eq_append_getElem h, List.foldl_append]
  rfl
/-- The table lies at T. -/
structure TabAt (w wr : World) (T : Nat) : Prop where
  bel : Below w.heap.size w wr
  far : w.heap.size ≤ T
  row : ∀ j, j < 16 → wr.cell? ⟨T, j, none⟩ = some (.int .u32 (tab j : Nat))
theorem TabAt.start {w w1 : World} (h : Below w.heap.size w w1) : TabAt w ((w1.alloc (.cells (halfA 0) 154)).setRow w1.heap.size (halfA 16)) w1.heap.size := by
  have hr := setRow_heap (w1.alloc (.cells (halfA 0) 154)) w1.heap.size (halfA 0) (halfA 16) 154 (0, 0) (heap_alloc_new _ _)
  refine ⟨⟨h.os, h.tape, h.output, by rw [size_setRow]; simp; have := h.size; omega, fun k hk => ?_⟩, h.size, fun j hj => ?_⟩
  · have := h.size
    rw [setRow_other _ _ k _ (by omega), heap_alloc_old _ _ (h := by omega)]
    exact h.block k hk
  · rw [cell_of_row _ _ _ _ _ _ hr, halfA_at _ _ hj, if_pos hj]

/-- What one byte does, step by step. -/
theorem byte_steps (v y : Nat) (hv : v < 4294967296) (hy : y < 256) : ∃ a m q a2 m2 q2 : Nat, bits .xor .u32 (v : Int) (y : Int) = (a : Int) ∧ bits .and .u32 (a : Int) 15 = (m : Int) ∧ m < 16 ∧ tab m = q ∧ bits .xor .u32 ((a : Int) / 16) (q : Int) = (a2 : Int) ∧
    bits .and .u32 (a2 : Int) 15 = (m2 : Int) ∧ m2 < 16 ∧ tab m2 = q2 ∧ bits .xor .u32 ((a2 : Int) / 16) (q2 : Int) = ((bitN 8 (v ^^^ y) : Nat) : Int) := by
  have h1 : ∀ a : Nat, a < 4294967296 → bits .and .u32 (a : Int) 15 = ((a % 16 : Nat) : Int) := fun a ha => by
    have := and32 (a := a) (b := 15) ha (by decide)
    rw [show ((15 : Nat) : Int) = 15 by rfl] at this
    rw [this]
    congr 1
    exact Nat.and_two_pow_sub_one_eq_mod a 4
  have h2 : ∀ a : Nat, a < 4294967296 → bits .xor .u32 ((a : Int) / 16) (tab (a % 16) : Nat) = ((bitN 4 a : Nat) : Int) := fun a ha => by
    rw [show (a : Int) / 16 = ((a / 16 : Nat) : Int) by simp, xor32 (by omega) (tab_lt (Nat.mod_lt _ (by omega))), nib]
  have ha : v ^^^ y < 4294967296 := Nat.xor_lt_two_pow (n := 32) hv (by omega)
  have ha2 := bitN_lt 4 ha
  refine ⟨v ^^^ y, (v ^^^ y) % 16, _, bitN 4 (v ^^^ y), bitN 4 (v ^^^ y) % 16, _, xor32 hv (by omega), h1 _ ha, Nat.mod_lt _ (by omega), rfl, h2 _ ha, h1 _ ha2, Nat.mod_lt _ (by omega), rfl, ?_⟩
  rw [h2 _ ha2, ← bitN_add]

/-- The law of not. -/
theorem not32 (v : Nat) (h : v < 4294967296) : bits .xor .u32 IntKind.u32.max (v : Int) = ((v ^^^ 4294967295 : Nat) : Int) := by
  rw [show IntKind.u32.max = ((4294967295 : Nat) : Int) by rfl, xor32 (by decide) h, Nat.xor_comm]

set_option maxRecDepth 100000 in
set_option maxHeartbeats 1000000 in
theorem sum_any (w : World) (g n c : Nat) (A : Option Addr) (L : Bytes) (hg : w.cell? ⟨g, 0, none⟩ = some (.slice A n c)) (hL : SBy w A n L) (hn : n ≤ 2 ^ 40) :
    Calls Try.prog 93 #[.slice (some ⟨g, 0, none⟩) 1 1] w fun e w' => e = .returned (.int .u32 (sumOf L : Nat)) ∧ Below w.heap.size w w' := by
  have hl := hL.1
  have HL := Lib.hid hL
  clear hL
  have hgl := lt_of_cell hg
  go_enter Try.func93, Try.ntmps93
  go_wp2_with fail
  refine (half_any w).mono ?_
  rintro e w1 ⟨rfl, hb1⟩
  have H1 := Lib.hid hb1
  clear hb1
  have r0 := heap_alloc_new w1 (.cells (halfA 0) 154)
  have HT := Lib.hid (TabAt.start H1.out)
  clear H1
  go_upto_region 2 with (refine wpList_store_row rfl 154 (.tmp 3) (.tmp 9) rfl w1.heap.size (halfA 16) rfl rfl 154 (halfA 0) r0 (by rw [halfA_size]; exact info16) (by rw [halfA_size, halfA_size]) (halfA_ones 16) ?_)
  refine wp_forget (fun W => TabAt w W w1.heap.size) HT.out ?_
  clear r0 HT
  intro w2 ht
  generalize w1.heap.size = T at *
  have hb := (bcells ht.bel).1
  have hg2 : w2.cell? ⟨g, 0, none⟩ = some (.slice A n c) := (hb g 0 hgl).trans hg
  have HL2 := Lib.hid (HL.out.up ht.bel)
  have HT := Lib.hid ht
  clear ht hb hg HL
  go_wp2
  go_loop [4, 12] (fun v i => ∃ k : Nat, k ≤ 1 ∧ i = .int .i64 k ∧ v = .int .u32 ((if k = 0 then 4294967295 else sumGo 4294967295 L) : Nat)) (fun _ i => 1 - (intOf i).toNat)
  case atStart => exact ⟨0, by omega, rfl, rfl⟩
  case round =>
    obtain ⟨k, hk, rfl, rfl⟩ := hrel
    by_cases hk0 : k = 0
    · subst hk0
      go_wp2
      go_loop [4, 18] (fun v i => ∃ j : Nat, j ≤ n ∧ i = .int .i64 j ∧ v = .int .u32 (sumGo 4294967295 (L.take j) : Nat)) (fun _ i => n - (intOf i).toNat)
      case atStart => exact ⟨0, by omega, rfl, rfl⟩
      case round =>
        obtain ⟨j, hj, rfl, rfl⟩ := hrel
        by_cases hj2 : j < n
        · obtain ⟨b, o, rfl, hbb, hc⟩ := HL2.out.2 (by omega)
          have c0 := hc j hj2
          clear hc
          have hlt := at8_lt L j
          have HS : Hid (sumGo 4294967295 (L.take (j + 1)) = bitN 8 (sumGo 4294967295 (L.take j) ^^^ at8 L j)) := by rw [sumGo_take (by omega), at8_get (by omega)]; rfl
          have hv := sumGo_lt (v := 4294967295) (by omega) (L.take j)
          generalize sumGo 4294967295 (L.take j) = v at *
          generalize at8 L j = y at *
          obtain ⟨a, m, q, a2, m2, q2, s1, s2, s3, s4, s5, s6, s7, s8, s9⟩ := byte_steps v y hv hlt
          have t1 := HT.out.row m s3
          have t2 := HT.out.row m2 s7
          rw [s4] at t1
          rw [s8] at t2
          clear s4 s8
          rw [← HS.out] at s9
          have HE := Lib.hid s9
          clear s9 HS
          go_wp2
          go_round
          case rel => exact ⟨j + 1, by omega, by go_num, by rw [HE.out]⟩
          case measure => simp [intOf]; omega
        · obtain rfl : j = n := by omega
          have ht : L.take j = L := List.take_of_length_le (by omega)
          go_wp2
          go_round
          case rel => exact ⟨1, by omega, by go_num, by rw [ht]; rfl⟩
          case measure => simp [intOf]
    · obtain rfl : k = 1 := by omega
      have HN := Lib.hid (not32 _ (sumGo_lt (v := 4294967295) (by omega) L))
      have HB := Lib.hid HT.out.bel
      go_wp2
      go_ret
      exact ⟨by rw [show sumOf L = sumGo 4294967295 L ^^^ 4294967295 by rfl, ← HN.out]; rfl, HB.out⟩
end Go.Proofs.Ytlmgihnnphmmhaa
namespace Go.Proofs.Ytlmgihnnphmmhaa
open Go.RowKit
set_option linter.unusedVariables false
set_option linter.unusedSimpArgs false

set_option maxRecDepth 100000 in
set_option maxHeartbeats 1000000 in
theorem clone_any (w : World) (A : Option Addr) (n c : Nat) (L : Bytes) (hL : SBy w A n L) (hn : n ≤ 2 ^ 40) :
    Calls Try.prog 58 #[.slice A n c] w fun e w' => ∃ A' c', e = .returned (.slice A' n c') ∧ FrB w w' (.slice A' n c') L ∧ (0 < n → ∃ b, A' = some ⟨b, 0, none⟩) := by
  have heq := fun (w : World) (a : Option Addr) (n c : Nat) => Lib.run_eql_slice_nil (P := Try.prog) w 28 5 a n c 0 0 Try.underlying28
  have HL := Lib.hid hL
  cases A with
  | none =>
    obtain rfl : n = 0 := by
      rcases Nat.eq_zero_or_pos n with h | h
      · exact h
      · obtain ⟨b, o, h, _⟩ := hL.2 h
        cases h
    have : L = [] := by simpa using hL.1
    subst this
    clear hL HL
    go_enter Try.func58, Try.ntmps58
    go_wp2
    go_ret
    exact ⟨_, _, rfl, FrB.empty w, fun h => by omega⟩
  | some a =>
    clear hL
    go_enter Try.func58, Try.ntmps58
    go_wp2_with (at_builtin; go_must (refine wpList_appF rfl (.tmp 5) (.tmp 6) rfl w (.slice (some ⟨w.heap.size, 0, none⟩) 0 0) [] L rfl (FrB.lit w) (some a) n c rfl (HL.out.alloc _) (by simp; omega) n (by simp) ?_); intro A' c' w1 h1 hg)
    have H1 := Lib.hid h1
    clear h1 hg
    go_wp2
    go_ret
    refine ⟨_, _, rfl, by simpa using H1.out, fun h => ?_⟩
    obtain ⟨g, cap, hv, _⟩ := World.ownsRow.form H1.out.own (by simpa [HL.out.1] using h)
    cases hv
    exact ⟨_, rfl⟩

/-- Bytes, sealed. -/
def sealB (L : Bytes) : Bytes := L ++ leB (sumOf L) 4
theorem sealB_length (L : Bytes) : (sealB L).length = L.length + 4 := by simp [sealB, leB_length]

set_option maxRecDepth 100000 in
set_option maxHeartbeats 1000000 in
theorem seal_any (w : World) (A : Option Addr) (n c : Nat) (L : Bytes) (hL : SBy w A n L) (hn : n ≤ 2 ^ 40) :
    Calls Try.prog 74 #[.slice A n c] w fun e w' => ∃ A' c', e = .returned (.slice A' (n + 4) c') ∧ FrB w w' (.slice A' (n + 4) c') (sealB L) := by
  have HL := Lib.hid hL
  clear hL
  have hs := sumOf_lt L
  have c1 := alloc_at w (.slice A n c) 28
  have hb0 : Below w.heap.size w (w.alloc (.cells #[.slice A n c] 28)) := (Below.refl _ _).alloc (Nat.le_refl _) _
  have HB0 := Lib.hid hb0
  have HS := Lib.hid (sum_any (w.alloc (.cells #[.slice A n c] 28)) w.heap.size n c A L c1.1 (HL.out.up hb0) hn)
  clear c1 hb0
  go_enter Try.func74, Try.ntmps74
  go_wp2_with fail
  refine HS.out.mono ?_
  rintro e w1 ⟨rfl, hb1⟩
  have HB1 := Lib.hid (below_upto HB0.out hb1 (Nat.le_refl _))
  clear hb1 HS
  have e1 := w64_of (n := sumOf L) (by omega)
  go_wp2_with fail
  refine (put_any w1 A n c L (sumOf L) 4 (HL.out.up HB1.out) (by omega) (by omega) hn).mono ?_
  rintro e w2 ⟨A', c', rfl, h2⟩
  have H2 := Lib.hid (h2.elder HB1.out)
  clear h2
  go_wp2
  go_ret
  exact ⟨_, _, rfl, H2.out⟩

/-- Bytes, opened: what they held, the error. -/
def openB (L : Bytes) : Bytes × Nat := if L.length < 4 then ([], 21) else if le8 (L.drop (L.length - 4)) 4 = sumOf (L.take (L.length - 4)) then (L.take (L.length - 4), 0) else ([], 23)
def OpenPost (L : Bytes) (w : World) (e : Ending) (w' : World) : Prop := ∃ A' c', e = .returned (.tuple #[.slice A' (openB L).1.length c', .int .i64 ((openB L).2 : Nat)]) ∧ FrB w w' (.slice A' (openB L).1.length c') (openB L).1

theorem le8_take (L : Bytes) (k m : Nat) (h : k ≤ m) : le8 (L.take m) k = le8 L k := by
  induction k with
  | zero => rfl
  | succ k ih =>
    have : at8 (L.take m) k = at8 L k := by simp [at8, List.getD_eq_getElem?_getD, List.getElem?_take, show k < m by omega]
    simp only [le8, ih (by omega), this]

set_option maxRecDepth 100000 in
set_option maxHeartbeats 1000000 in
theorem open_any (w : World) (A : Option Addr) (n c : Nat) (L : Bytes) (hL : SBy w A n L) (hc : n ≤ c) (hn : n ≤ 2 ^ 40) :
    Calls Try.prog 84 #[.slice A n c] w (OpenPost L w) := by
  have hl := hL.1
  have HL := Lib.hid hL
  by_cases h4 : n < 4
  · have HO : Hid (openB L = ([], 21)) := by unfold openB; rw [if_pos (by omega)]; rfl
    clear hL
    go_enter Try.func84, Try.ntmps84
    go_wp2
    go_ret2
    unfold OpenPost
    rw [HO.out]
    exact ⟨none, 0, rfl, FrB.empty w⟩
  · obtain ⟨b, o, rfl, hb, _⟩ := hL.2 (by omega)
    obtain ⟨m, rfl⟩ : ∃ m, n = m + 4 := ⟨n - 4, by omega⟩
    have P1 : Hid (SBy w (some ⟨b, o + m, none⟩) 4 (L.drop m)) := by
      have := hL.part m (m + 4) (by omega) (by omega)
      rw [Nat.add_sub_cancel_left, List.take_of_length_le (by simp [hl])] at this
      exact this
    have P2 : Hid (SBy w (some ⟨b, o, none⟩) m (L.take m)) := hL.part 0 m (by omega) (by omega)
    have HO : Hid (openB L = if le8 (L.drop m) 4 = sumOf (L.take m) then (L.take m, 0) else ([], 23)) := by unfold openB; rw [if_neg (by omega), hl, Nat.add_sub_cancel]; exact rfl
    clear hL HL
    have hv := le8_lt (L.drop m) 4
    have hs := sumOf_lt (L.take m)
    have e1 := w32_of (n := le8 (L.drop m) 4) hv
    have hb0 : Below w.heap.size w (w.alloc (.cells #[.slice (some ⟨b, o, none⟩) m c] 28)) := (Below.refl _ _).alloc (Nat.le_refl _) _
    have HB0 := Lib.hid hb0
    have HS := Lib.hid (sum_any (w.alloc (.cells #[.slice (some ⟨b, o, none⟩) m c] 28)) w.heap.size m c _ _ (alloc_at _ _ _).1 (P2.out.up hb0) (by omega))
    clear hb0
    go_enter Try.func84, Try.ntmps84
    go_wp2_with fail
    refine (get_any w (some ⟨b, o + m, none⟩) 4 (c - m) (L.drop m) 4 P1.out (by omega) (by omega) (by unfold maxLen; omega)).mono ?_
    rintro _ w1 ⟨rfl, rfl⟩
    go_wp2_with fail
    refine HS.out.mono ?_
    rintro _ w2 ⟨rfl, hb2⟩
    have HB2 := Lib.hid (below_upto HB0.out hb2 (Nat.le_refl _))
    clear hb2 HS HB0
    by_cases heq : le8 (L.drop m) 4 = sumOf (L.take m)
    · have HO2 := HO.out
      rw [if_pos heq] at HO2
      have HO := Lib.hid HO2
      clear HO2
      rw [heq] at e1
      rw [heq]
      go_wp2_with fail
      refine (clone_any w2 (some ⟨b, o, none⟩) m c _ (P2.out.up HB2.out) (by omega)).mono ?_
      rintro _ w3 ⟨A', c', rfl, h3, _⟩
      have H3 := Lib.hid (h3.elder HB2.out)
      clear h3
      go_wp2
      go_ret2
      unfold OpenPost
      rw [HO.out]
      have hlm : (L.take m).length = m := by simp [hl]
      refine ⟨A', c', ?_, ?_⟩
      · simp only [hlm]; rfl
      · simp only [hlm]; exact H3.out
    · have HO2 := HO.out
      rw [if_neg heq] at HO2
      have HO := Lib.hid HO2
      clear HO2
      have hne : ((le8 (L.drop m) 4 : Nat) : Int) ≠ (sumOf (L.take m) : Nat) := by omega
      go_wp2
      go_ret2
      unfold OpenPost
      rw [HO.out]
      exact ⟨none, 0, rfl, (FrB.empty _).up HB2.out⟩
set_option maxRecDepth 100000 in
theorem equal_any (w : World) (A B : Option Addr) (n c m d : Nat) (L M : Bytes) (hL : SBy w A n L) (hM : SBy w B m M) :
    Calls Try.prog 100 #[.slice A n c, .slice B m d] w fun e w' => e = .returned (.bool (decide (L = M))) ∧ w' = w := by
  have s1 := hL.str c
  have s2 := hM.str d
  go_enter Try.func100, Try.ntmps100
  go_wp2
  go_ret
  exact ⟨by rw [← strB_eq]; rfl, rfl⟩
end Go.Proofs.Ytlmgihnnphmmhaa
namespace Go.Proofs.Ytlmgihnnphmmhaa
open Go.RowKit
set_option linter.unusedVariables false
set_option linter.unusedSimpArgs false

/-! ### the plain laws -/
theorem at8_app_left {L M : Bytes} {k : Nat} (h : k < L.length) : at8 (L ++ M) k = at8 L k := by
  simp [at8, List.getD_eq_getElem?_getD, List.getElem?_append_left h]
theorem le8_app {L M : Bytes} {k : Nat} (h : k ≤ L.length) : le8 (L ++ M) k = le8 L k := by
  induction k with
  | zero => rfl
  | succ k ih => simp only [le8, ih (by omega), at8_app_left (M := M) (show k < L.length by omega)]
theorem le8_leB (V n k : Nat) (h : k ≤ n) : le8 (leB V n) k = V % 256 ^ k := by
  induction k with
  | zero => simp [le8, Nat.mod_one]
  | succ k ih =>
    have e : at8 (leB V n) k = V / 256 ^ k % 256 := by
      simp [at8, leB, List.getD_eq_getElem?_getD, show k < n by omega]
      exact b8_lt (Nat.mod_lt _ (by omega))
    simp only [le8, ih (by omega), e]
    rw [Nat.pow_succ, Nat.mod_mul, Nat.mul_comm (V / 256 ^ k % 256)]
theorem openB_seal (L : Bytes) : openB (sealB L) = (L, 0) := by
  unfold openB
  rw [sealB_length, if_neg (by omega), Nat.add_sub_cancel]
  have h1 : (sealB L).take L.length = L := by simp [sealB]
  have h2 : (sealB L).drop L.length = leB (sumOf L) 4 := by simp [sealB]
  rw [h1, h2, le8_leB _ _ _ (Nat.le_refl _), Nat.mod_eq_of_lt (sumOf_lt L), if_pos rfl]
/-- A frame. -/
def frameB (k : UInt8) (L : Bytes) : Bytes := sealB (k :: leB L.length 4) ++ sealB L
theorem frameB_length (k : UInt8) (L : Bytes) : (frameB k L).length = 13 + L.length := by simp [frameB, sealB_length, leB_length]; omega
/-- What ReadFrame answers: the kind, the bytes, the frame's length, the error. -/
def rdFrame (L : Bytes) : UInt8 × Bytes × Nat × Nat :=
  if L.length < 9 then (0, [], 0, 21) else
  if (openB (L.take 9)).2 ≠ 0 then (0, [], 0, (openB (L.take 9)).2) else
  if 1048576 < le8 ((L.take 5).drop 1) 4 then (0, [], 0, 24) else
  if L.length < 13 + le8 ((L.take 5).drop 1) 4 then (0, [], 0, 21) else
  if (openB ((L.drop 9).take (le8 ((L.take 5).drop 1) 4 + 4))).2 ≠ 0 then (0, [], 0, (openB ((L.drop 9).take (le8 ((L.take 5).drop 1) 4 + 4))).2) else
  (L.getD 0 0, (openB ((L.drop 9).take (le8 ((L.take 5).drop 1) 4 + 4))).1, 13 + le8 ((L.take 5).drop 1) 4, 0)
theorem openB_ok {L : Bytes} (h : (openB L).2 = 0) : 4 ≤ L.length ∧ (openB L).1 = L.take (L.length - 4) := by
  unfold openB at *
  by_cases h1 : L.length < 4
  · rw [if_pos h1] at h; cases h
  · rw [if_neg h1] at h ⊢
    by_cases h2 : le8 (L.drop (L.length - 4)) 4 = sumOf (L.take (L.length - 4))
    · rw [if_pos h2]; exact ⟨by omega, rfl⟩
    · rw [if_neg h2] at h; cases h
theorem openB_bad {L : Bytes} (h : (openB L).2 ≠ 0) : (openB L).1 = [] := by
  unfold openB at *
  by_cases h1 : L.length < 4
  · rw [if_pos h1]
  · rw [if_neg h1] at h ⊢
    by_cases h2 : le8 (L.drop (L.length - 4)) 4 = sumOf (L.take (L.length - 4))
    · rw [if_pos h2] at h; exact absurd rfl h
    · rw [if_neg h2]
theorem openB_err (L : Bytes) : (openB L).2 = 0 ∨ (openB L).2 = 21 ∨ (openB L).2 = 23 := by
  unfold openB
  split
  · simp
  · split <;> simp
theorem rdFrame_frame (k : UInt8) (L r : Bytes) (h : L.length ≤ 1048576) : rdFrame (frameB k L ++ r) = (k, L, 13 + L.length, 0) := by
  have hl : (frameB k L ++ r).length = 13 + L.length + r.length := by rw [List.length_append, frameB_length]
  have s9 : (sealB (k :: leB L.length 4)).length = 9 := by simp [sealB_length, leB_length]
  have t9 : (frameB k L ++ r).take 9 = sealB (k :: leB L.length 4) := by unfold frameB; rw [List.append_assoc, List.take_append_of_le_length (by omega), List.take_of_length_le (by omega)]
  have d9 : (frameB k L ++ r).drop 9 = sealB L ++ r := by unfold frameB; rw [List.append_assoc, List.drop_append_of_le_length (by omega), List.drop_of_length_le (by omega), List.nil_append]
  have t5 : ((frameB k L ++ r).take 5).drop 1 = leB L.length 4 := by
    unfold frameB sealB
    simp only [List.append_assoc, List.cons_append]
    rw [List.take_succ_cons, List.drop_succ_cons, List.drop_zero, List.take_append_of_le_length (by rw [leB_length]; omega), List.take_of_length_le (by rw [leB_length]; omega)]
  have hv : le8 (leB L.length 4) 4 = L.length := by rw [le8_leB _ _ _ (Nat.le_refl _), Nat.mod_eq_of_lt (by omega)]
  have tp : (sealB L ++ r).take (L.length + 4) = sealB L := by rw [List.take_append_of_le_length (by rw [sealB_length]; omega), List.take_of_length_le (by rw [sealB_length]; omega)]
  have g0 : (frameB k L ++ r).getD 0 0 = k := by simp [frameB, sealB]
  unfold rdFrame
  rw [hl, t9, d9, t5, hv, tp, openB_seal, openB_seal, g0, if_neg (by omega), if_neg (by simp), if_neg (by omega), if_neg (by omega), if_neg (by simp)]

/-! ### the walks -/
set_option maxRecDepth 100000 in
set_option maxHeartbeats 1000000 in
theorem frame_any (w : World) (k : Nat) (A : Option Addr) (n c : Nat) (L : Bytes) (hk : k < 256) (hL : SBy w A n L) (hn : n ≤ 2 ^ 31) :
    Calls Try.prog 42 #[.int .u8 k, .slice A n c] w fun e w' => ∃ A' c', e = .returned (.slice A' (13 + n) c') ∧ FrB w w' (.slice A' (13 + n) c') (frameB (b8 k) L) := by
  have hl := hL.1
  have HL := Lib.hid hL
  clear hL
  have e1 := w64_of (n := n) (by omega)
  have hb0 : Below w.heap.size w (w.alloc (.cells #[.int .u8 k] 5)) := (Below.refl _ _).alloc (Nat.le_refl _) _
  have HB0 := Lib.hid hb0
  have HP := Lib.hid (put_any (w.alloc (.cells #[.int .u8 k] 5)) (some ⟨w.heap.size, 0, none⟩) 1 1 [b8 k] n 4 (SBy.one w hk _) (by omega) (by omega) (by omega))
  clear hb0
  go_enter Try.func42, Try.ntmps42
  go_wp2_with fail
  refine HP.out.mono ?_
  rintro _ w1 ⟨A1, c1, rfl, h1⟩
  have H1 := Lib.hid (h1.elder HB0.out)
  clear h1 HP HB0
  go_wp2_with fail
  refine (seal_any w1 A1 (1 + 4) c1 _ H1.out.sby (by omega)).mono ?_
  rintro _ w2 ⟨A2, c2, rfl, h2⟩
  have H2 := Lib.hid (h2.elder H1.out.bel)
  clear h2 H1
  go_wp2_with fail
  refine (seal_any w2 A n c L (HL.out.up H2.out.bel) (by omega)).mono ?_
  rintro _ w3 ⟨A3, c3, rfl, h3⟩
  have H2' := Lib.hid (H2.out.up h3.bel)
  have H3 := Lib.hid h3.sby
  clear h3 H2
  go_wp2_with (at_builtin; go_must (refine wpList_appF rfl (.tmp 11) (.tmp 13) rfl w (.slice A2 (1 + 4 + 4) c2) (sealB (b8 k :: leB L.length 4)) (sealB L) rfl (by rw [hl]; exact H2'.out) A3 (n + 4) c3 rfl H3.out (by rw [sealB_length]; simp [leB_length]; omega) (13 + n) (by rw [sealB_length]; simp [leB_length]; omega) ?_); intro A4 c4 w4 h4 hg4)
  have H4 := Lib.hid h4
  clear h4 hg4 H2' H3
  go_wp2
  go_ret
  exact ⟨_, _, rfl, H4.out⟩

def RfPost (L : Bytes) (w : World) (e : Ending) (w' : World) : Prop := ∃ A' c', e = .returned (.tuple #[.int .u8 ((rdFrame L).1.toNat : Nat), .slice A' (rdFrame L).2.1.length c', .int .i64 ((rdFrame L).2.2.1 : Nat), .int .i64 ((rdFrame L).2.2.2 : Nat)]) ∧
  (rdFrame L).2.1.length ≤ c' ∧ FrB w w' (.slice A' (rdFrame L).2.1.length c') (rdFrame L).2.1

set_option maxRecDepth 100000 in
set_option maxHeartbeats 1000000 in
theorem readFrame_any (w : World) (A : Option Addr) (n c : Nat) (L : Bytes) (hL : SBy w A n L) (hc : n ≤ c) (hn : n ≤ 2 ^ 40) :
    Calls Try.prog 52 #[.slice A n c] w (RfPost L w) := by
  have hl := hL.1
  by_cases h9 : n < 9
  · have HO : Hid (rdFrame L = (0, [], 0, 21)) := by unfold rdFrame; rw [if_pos (by omega)]; exact rfl
    clear hL
    go_enter Try.func52, Try.ntmps52
    go_wp2
    refine bodyPost_ret (results_tmp4 rfl _ _ _) rfl ?_
    unfold RfPost
    rw [HO.out]
    exact ⟨none, 0, rfl, Nat.le_refl _, FrB.empty w⟩
  · have HO : Hid (rdFrame L = rdFrame L) := rfl
    have HO1 := HO.out
    conv at HO1 => rhs; unfold rdFrame
    rw [if_neg (by omega)] at HO1
    obtain ⟨b, o, rfl, hb, _⟩ := hL.2 (by omega)
    have P1 : Hid (SBy w (some ⟨b, o, none⟩) 9 (L.take 9)) := hL.part 0 9 (by omega) (by omega)
    have HL := Lib.hid hL
    clear hL HO
    have H := Lib.hid HO1
    clear HO1
    go_enter Try.func52, Try.ntmps52
    go_wp2_with fail
    refine (open_any w (some ⟨b, o, none⟩) 9 c _ P1.out (by omega) (by omega)).mono ?_
    rintro _ w1 ⟨A1, c1, rfl, h1⟩
    by_cases h2 : (openB (L.take 9)).2 = 0
    case neg =>
      have H' := H.out
      rw [if_pos h2] at H'
      have H := Lib.hid H'
      clear H'
      have H1 := Lib.hid h1.bel
      have hne : (((openB (L.take 9)).2 : Nat) : Int) ≠ 0 := by omega
      clear h1 h2
      go_wp2
      refine bodyPost_ret (results_tmp4 rfl _ _ _) rfl ?_
      unfold RfPost
      rw [H.out]
      exact ⟨none, 0, rfl, Nat.le_refl _, (FrB.empty _).up H1.out⟩
    case pos =>
      have H' := H.out
      rw [if_neg (by omega)] at H'
      have ho := openB_ok h2
      have h9' : (L.take 9).length = 9 := by simp [hl]; omega
      rw [h9'] at ho
      have ho5 : (openB (L.take 9)).1 = L.take 5 := by rw [ho.2]; simp [List.take_take]
      have h5 : (L.take 5).length = 5 := by simp [hl]; omega
      rw [ho5, h5] at h1
      rw [ho5, h5, h2]
      clear ho ho5 h2
      have H := Lib.hid H'
      clear H'
      have H1 := Lib.hid h1
      have hc1 := h1.cap
      obtain ⟨b1, o1, rfl, hb1, hcell⟩ := h1.sby.2 (by omega)
      have c0 := hcell 0 (by omega)
      have P2 : Hid (SBy w1 (some ⟨b1, o1 + 1, none⟩) 4 ((L.take 5).drop 1)) := by
        have := h1.sby.part 1 5 (by omega) (by omega)
        rw [List.take_of_length_le (by simp only [List.length_drop, List.length_take]; omega)] at this
        exact this
      clear hcell h1
      have a0 : at8 (L.take 5) 0 = (L.getD 0 0).toNat := by simp [at8, List.getD_eq_getElem?_getD, List.getElem?_take]
      rw [a0, Nat.add_zero] at c0
      have hv := le8_lt ((L.take 5).drop 1) 4
      go_wp2_with fail
      refine (get_any w1 (some ⟨b1, o1 + 1, none⟩) 4 (c1 - 1) _ 4 P2.out (by omega) (by omega) (by unfold maxLen; omega)).mono ?_
      rintro _ w2 ⟨rfl, rfl⟩
      generalize le8 ((L.take 5).drop 1) 4 = v at *
      by_cases hv1 : 1048576 < v
      · have H' := H.out
        rw [if_pos hv1] at H'
        have H := Lib.hid H'
        clear H'
        have hg : (v : Int) > 1048576 := by omega
        go_wp2
        refine bodyPost_ret (results_tmp4 rfl _ _ _) rfl ?_
        unfold RfPost
        rw [H.out]
        exact ⟨none, 0, rfl, Nat.le_refl _, (FrB.empty _).up H1.out.bel⟩
      have H' := H.out
      rw [if_neg hv1] at H'
      have e2 : IntKind.i64.wrap (v : Int) = (v : Int) := IntWalk.i64_in _ (by omega)
      by_cases hv2 : L.length < 13 + v
      · rw [if_pos hv2] at H'
        have H := Lib.hid H'
        clear H'
        have hg : (9 + (v : Int) + 4) > (n : Int) := by omega
        go_wp2
        refine bodyPost_ret (results_tmp4 rfl _ _ _) rfl ?_
        unfold RfPost
        rw [H.out]
        exact ⟨none, 0, rfl, Nat.le_refl _, (FrB.empty _).up H1.out.bel⟩
      rw [if_neg hv2] at H'
      have H := Lib.hid H'
      clear H'
      have hlen : ((L.drop 9).take (v + 4)).length = v + 4 := by simp only [List.length_take, List.length_drop]; omega
      have P3 : Hid (SBy w2 (some ⟨b, o + 9, none⟩) (v + 4) ((L.drop 9).take (v + 4))) := by
        have := (HL.out.up H1.out.bel).part 9 (13 + v) (by omega) (by omega)
        rw [show 13 + v - 9 = v + 4 by omega] at this
        exact this
      obtain ⟨E, hE⟩ : ∃ E, E = 13 + v := ⟨_, rfl⟩
      have hg1 : (9 + (v : Int) + 4) = (E : Int) := by omega
      have hg2 : E ≤ n := by omega
      have hg3 : 9 ≤ E := by omega
      rw [show v + 4 = E - 9 by omega] at P3
      have HE := Lib.hid hE
      clear hE hv2 hv
      rw [show v + 4 = E - 9 by omega] at hlen
      have hM : Hid ((L.drop 9).take (v + 4) = (L.drop 9).take (E - 9)) := by rw [show v + 4 = E - 9 by have := HE.out; omega]; exact rfl
      go_wp2_with fail
      refine (open_any w2 (some ⟨b, o + 9, none⟩) (E - 9) (c - 9) _ P3.out (by omega) (by omega)).mono ?_
      rintro _ w3 ⟨A3, c3, rfl, h3⟩
      have H' := H.out
      rw [hM.out] at H'
      have H3 := Lib.hid (h3.elder H1.out.bel)
      have c0' : w3.cell? ⟨b1, o1, none⟩ = some (.int .u8 ((L.getD 0 0).toNat : Nat)) := (h3.bel.cell (p := ⟨b1, o1, none⟩) hb1).trans c0
      clear h3 c0 hM H
      generalize hq : openB ((L.drop 9).take (E - 9)) = q at *
      clear hq hlen
      obtain ⟨M, err⟩ := q
      simp only at H' H3 ⊢
      by_cases h6 : err = 0
      · subst h6
        rw [if_neg (by simp), ← HE.out] at H'
        have H := Lib.hid H'
        clear H'
        go_wp2
        refine bodyPost_ret (results_tmp4 rfl _ _ _) rfl ?_
        unfold RfPost
        rw [H.out]
        exact ⟨A3, c3, rfl, H3.out.cap, H3.out⟩
      · rw [if_pos h6] at H'
        have H := Lib.hid H'
        clear H'
        have hne : ((err : Nat) : Int) ≠ 0 := by omega
        go_wp2
        refine bodyPost_ret (results_tmp4 rfl _ _ _) rfl ?_
        unfold RfPost
        rw [H.out]
        exact ⟨none, 0, rfl, Nat.le_refl _, (FrB.empty _).up H3.out.bel⟩
end Go.Proofs.Ytlmgihnnphmmhaa
