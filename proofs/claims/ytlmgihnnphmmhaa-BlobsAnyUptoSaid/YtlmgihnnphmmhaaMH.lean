/- lz.literal, lz.copied, lz.key, lz.same. What Unpack answers, in plain words; that packed bytes unpack. lz's reader: next. What Pack answers, in plain words; that it unpacks. -/
import Derived.Test.YtlmgihnnphmmhaaMB
namespace Go.Proofs.Ytlmgihnnphmmhaa
open Go.RowKit
set_option linter.unusedVariables false
set_option linter.unusedSimpArgs false

/-- A literal's token. -/
def litB (P x : Bytes) : Bytes := if x = [] then P else P ++ varB (2 * x.length) ++ x
/-- A copy's token. -/
def copB (P : Bytes) (n d : Nat) : Bytes := P ++ varB (2 * n + 1) ++ varB d
theorem litB_le (P x : Bytes) (h : x.length ≤ 2 ^ 40) : (litB P x).length ≤ P.length + x.length + 10 := by
  unfold litB
  split
  · omega
  · have := varB_10 (v := 2 * x.length) (by omega)
    simp only [List.length_append]
    omega
theorem copB_le (P : Bytes) (n d : Nat) (hn : n ≤ 2 ^ 40) (hd : d ≤ 2 ^ 40) : (copB P n d).length ≤ P.length + 20 := by
  have := varB_10 (v := 2 * n + 1) (by omega)
  have := varB_10 (v := d) (by omega)
  unfold copB
  simp only [List.length_append]
  omega

set_option maxRecDepth 100000 in
set_option maxHeartbeats 1000000 in
theorem literal_any (w0 w : World) (A : Option Addr) (n c : Nat) (P : Bytes) (B : Option Addr) (m d : Nat) (x : Bytes) (hP : FrB w0 w (.slice A n c) P) (hx : SBy w B m x) (hn : n ≤ 2 ^ 30) (hm : m ≤ 2 ^ 30) :
    Calls Try.prog 99 #[.slice A n c, .slice B m d] w fun e w' => ∃ A' n' c', e = .returned (.slice A' n' c') ∧ FrB w0 w' (.slice A' n' c') (litB P x) ∧ Below w.heap.size w w' := by
  have hl := hx.1
  have HP := Lib.hid hP
  have HX := Lib.hid hx
  clear hP hx
  by_cases h0 : m = 0
  · subst h0
    have : x = [] := by simpa using hl
    subst this
    go_enter Try.func99, Try.ntmps99
    go_wp2
    go_ret
    exact ⟨_, _, _, rfl, by simpa [litB] using HP.out, Below.refl _ _⟩
  · have hne : x ≠ [] := by intro h; subst h; simp at hl; omega
    have k0 : ((m : Int) == 0) = false := by simp; omega
    have e1 := w64_of (n := m) (by omega)
    obtain ⟨u, hu⟩ : ∃ u, u = 2 * x.length := ⟨_, rfl⟩
    have e2 : IntKind.u64.wrap ((m : Int) * 2) = (u : Int) := by rw [hu, hl, show ((m : Int) * 2) = ((2 * m : Nat) : Int) by omega, w64_of (by omega)]
    have HV := Lib.hid (var_any w A n c P u HP.out.sby (by omega) (by omega))
    have HE : Hid (litB P x = P ++ varB u ++ x) := by unfold litB; rw [if_neg hne, hu]; exact rfl
    have hp := HP.out.len
    have h10 := varB_10 (v := u) (by omega)
    clear hu
    go_enter Try.func99, Try.ntmps99
    go_wp2_with fail
    refine HV.out.mono ?_
    rintro _ w1 ⟨A1, n1, c1, rfl, h1⟩
    have H1 := Lib.hid h1
    have hn1 := h1.len
    clear h1 HV
    go_wp2_with (at_builtin; go_must (refine wpList_appF rfl (.tmp 14) (.tmp 15) rfl w (.slice A1 n1 c1) (P ++ varB u) x rfl H1.out B m d rfl (HX.out.up H1.out.bel) (by simp only [List.length_append]; omega) (n1 + m) (by rw [hn1]) ?_); intro A2 c2 w2 h2 hg2)
    have H2 := Lib.hid h2
    clear h2 hg2 H1
    go_wp2
    go_ret
    refine ⟨_, _, _, rfl, ?_, H2.out.bel⟩
    rw [HE.out]
    exact H2.out.elder HP.out.bel

set_option maxRecDepth 100000 in
set_option maxHeartbeats 1000000 in
theorem copied_any (w : World) (A : Option Addr) (n c : Nat) (P : Bytes) (k d : Nat) (hP : SBy w A n P) (hn : n ≤ 2 ^ 32) (hk : k ≤ 2 ^ 30) (hd : d ≤ 2 ^ 30) :
    Calls Try.prog 98 #[.slice A n c, .int .i64 k, .int .i64 d] w fun e w' => ∃ A' n' c', e = .returned (.slice A' n' c') ∧ FrB w w' (.slice A' n' c') (copB P k d) := by
  have HP := Lib.hid hP
  clear hP
  obtain ⟨u, hu⟩ : ∃ u, u = 2 * k := ⟨_, rfl⟩
  obtain ⟨v, hv⟩ : ∃ v, v = 2 * k + 1 := ⟨_, rfl⟩
  have e1 := w64_of (n := k) (by omega)
  have e3 := w64_of (n := d) (by omega)
  have e2 : IntKind.u64.wrap ((k : Int) * 2) = (u : Int) := by rw [hu, show ((k : Int) * 2) = ((2 * k : Nat) : Int) by omega, w64_of (by omega)]
  have e4 : bits .or .u64 (u : Int) 1 = (v : Int) := by
    have := or64 (a := u) (b := 1) (by omega) (by decide)
    rw [show ((1 : Nat) : Int) = 1 by rfl] at this
    rw [this, hu, hv, ← Nat.two_pow_add_eq_or_of_lt (i := 1) (by omega) k]
  have HV := Lib.hid (var_any w A n c P v HP.out (by omega) (by omega))
  have hp := HP.out.len
  have h10 := varB_10 (v := v) (by omega)
  have HE : Hid (copB P k d = P ++ varB v ++ varB d) := by unfold copB; rw [hv]; exact rfl
  clear hu hv
  go_enter Try.func98, Try.ntmps98
  go_wp2_with fail
  refine HV.out.mono ?_
  rintro _ w1 ⟨A1, n1, c1, rfl, h1⟩
  have H1 := Lib.hid h1
  have hn1 := h1.len
  have hn2 : n1 ≤ 2 ^ 40 := by rw [← hn1, List.length_append]; omega
  clear h1 HV hn1
  go_wp2_with fail
  refine (var_any w1 A1 n1 c1 _ d H1.out.sby (by omega) hn2).mono ?_
  rintro _ w2 ⟨A2, n2, c2, rfl, h2⟩
  have H2 := Lib.hid (h2.elder H1.out.bel)
  clear h2 H1
  go_wp2
  go_ret
  refine ⟨_, _, _, rfl, ?_⟩
  rw [HE.out]
  exact H2.out

/-- The key at a place. -/
def keyB (b : Bytes) (i : Nat) : Nat := le8 (b.drop i) 4
theorem keyB_lt (b : Bytes) (i : Nat) : keyB b i < 4294967296 := le8_lt _ 4
set_option maxRecDepth 100000 in
set_option maxHeartbeats 1000000 in
theorem key_any (w : World) (A : Option Addr) (n c : Nat) (b : Bytes) (i : Nat) (hb : SBy w A n b) (hc : n ≤ c) (hi : i + 4 ≤ n) (hn : n ≤ 2 ^ 40) :
    Calls Try.prog 95 #[.slice A n c, .int .i64 i] w fun e w' => e = .returned (.int .u32 (keyB b i : Nat)) ∧ w' = w := by
  have hl := hb.1
  obtain ⟨g, o, rfl, hg, _⟩ := hb.2 (by omega)
  obtain ⟨E, hE⟩ : ∃ E, E = i + 4 := ⟨_, rfl⟩
  have P1 : Hid (SBy w (some ⟨g, o + i, none⟩) (E - i) ((b.drop i).take 4)) := by
    have := hb.part i E (by omega) (by omega)
    rw [show (b.drop i).take (E - i) = (b.drop i).take 4 by rw [hE, Nat.add_sub_cancel_left]] at this
    exact this
  have hk := keyB_lt b i
  have e1 := w32_of (n := keyB b i) hk
  have HK : Hid (le8 ((b.drop i).take 4) 4 = keyB b i) := le8_take _ _ _ (Nat.le_refl _)
  have g1 : (i : Int) + 4 = (E : Int) := by omega
  have g2 : i ≤ E := by omega
  have g3 : E ≤ n := by omega
  have HE := Lib.hid hE
  clear hb hE
  go_enter Try.func95, Try.ntmps95
  go_wp2_with fail
  refine (get_any w (some ⟨g, o + i, none⟩) (E - i) (E - i) _ 4 P1.out (by have := HE.out; omega) (by omega) (by unfold maxLen; omega)).mono ?_
  rintro _ w1 ⟨rfl, rfl⟩
  rw [HK.out]
  go_wp2
  go_ret
  exact ⟨rfl, rfl⟩

/-- How many bytes are the same. -/
def lcp : Bytes → Bytes → Nat
  | x :: xs, y :: ys => if x = y then lcp xs ys + 1 else 0
  | _, _ => 0
def sameB (b : Bytes) (i j : Nat) : Nat := lcp (b.drop i) (b.drop j)
theorem lcp_le (x y : Bytes) : lcp x y ≤ y.length := by
  induction x generalizing y with
  | nil => simp [lcp]
  | cons a x ih =>
    cases y with
    | nil => simp [lcp]
    | cons c y =>
      unfold lcp
      split
      · have := ih y; simp; omega
      · simp
theorem lcp_same (x y : Bytes) : x.take (lcp x y) = y.take (lcp x y) := by
  induction x generalizing y with
  | nil => simp [lcp]
  | cons a x ih =>
    cases y with
    | nil => simp [lcp]
    | cons c y =>
      unfold lcp
      split
      · rename_i h; rw [List.take_succ_cons, List.take_succ_cons, ih y, h]
      · simp
theorem sameB_step {b : Bytes} {i j : Nat} (hij : i ≤ j) (hj : j < b.length) : sameB b i j = if at8 b i = at8 b j then sameB b (i + 1) (j + 1) + 1 else 0 := by
  unfold sameB
  rw [List.drop_eq_getElem_cons (show i < b.length by omega), List.drop_eq_getElem_cons hj]
  rw [at8_get (show i < b.length by omega), at8_get hj]
  conv => lhs; unfold lcp
  simp only [UInt8.toNat_inj]
theorem sameB_end {b : Bytes} {i j : Nat} (hj : b.length ≤ j) : sameB b i j = 0 := by
  unfold sameB
  rw [List.drop_eq_nil_of_le hj]
  cases b.drop i <;> rfl

set_option maxRecDepth 100000 in
set_option maxHeartbeats 1000000 in
theorem same_any (w : World) (A : Option Addr) (n c : Nat) (b : Bytes) (i j : Nat) (hb : SBy w A n b) (hij : i ≤ j) (hj : j ≤ n) (hn : n ≤ 2 ^ 40) :
    Calls Try.prog 97 #[.slice A n c, .int .i64 i, .int .i64 j] w fun e w' => e = .returned (.int .i64 (sameB b i j : Nat)) ∧ Below w.heap.size w w' := by
  have hl := hb.1
  have HB := Lib.hid hb
  clear hb
  go_enter Try.func97, Try.ntmps97
  go_wp2
  go_loopw [7] (fun v wr => ∃ k : Nat, j + k ≤ n ∧ v = .int .i64 k ∧ sameB b i j = k + sameB b (i + k) (j + k) ∧ Below w.heap.size w wr) (fun v _ => n - (intOf v).toNat)
  case atStart => exact ⟨0, by omega, rfl, by simp, Below.refl _ _⟩
  case round =>
    obtain ⟨k, hk, rfl, hs, hbl⟩ := hrel
    have HS := Lib.hid hs
    have HL := Lib.hid hbl
    clear hs hbl
    obtain ⟨p, hp⟩ : ∃ p, p = i + k := ⟨_, rfl⟩
    obtain ⟨q, hq⟩ : ∃ q, q = j + k := ⟨_, rfl⟩
    have g1 : (i : Int) + (k : Int) = (p : Int) := by omega
    have g2 : (j : Int) + (k : Int) = (q : Int) := by omega
    have HP : Hid (sameB b i j = k + sameB b p q) := by rw [hp, hq]; exact HS.out
    have HQ := Lib.hid hq
    have HR := Lib.hid hp
    by_cases hlt : q < n
    · obtain ⟨g, o, rfl, hg, hcell⟩ := HB.out.2 (by omega)
      have hbel := (bcells HL.out).1
      have c0 : wr.cell? ⟨g, o + p, none⟩ = _ := (hbel g _ hg).trans (hcell p (by omega))
      have c1 : wr.cell? ⟨g, o + q, none⟩ = _ := (hbel g _ hg).trans (hcell q hlt)
      have hstep := sameB_step (b := b) (i := p) (j := q) (by omega) (by omega)
      have HT := Lib.hid hstep
      have g3 : (q : Int) < (n : Int) := by omega
      have g4 : (p : Int) < (n : Int) := by omega
      have g5 : 0 ≤ (q : Int) := by omega
      have g6 : 0 ≤ (p : Int) := by omega
      clear hstep hbel hcell hp hq HS
      have g7 : decide ((q : Int) < (n : Int)) = true := by simp; omega
      by_cases heq : at8 b p = at8 b q
      · rw [heq] at c0
        rw [if_pos heq] at HT
        have HW : Hid (∀ m, Below w.heap.size w (wr.drewN m)) := fun m => below_drewN HL.out m
        clear heq
        go_upto_region 2 with (fail)
        go_quiet (fail)
        go_wp2
        go_roundw
        case rel => exact ⟨k + 1, by have := HQ.out; omega, by go_num, by rw [HP.out, HT.out, HQ.out, HR.out]; simp only [Nat.add_assoc]; omega, HW.out _⟩
        case measure => simp [intOf]; have := HQ.out; omega
      · rw [if_neg heq] at HT
        have g8 : (((at8 b p : Nat) : Int) == (at8 b q : Nat)) = false := by simp; omega
        have HW : Hid (∀ m, Below w.heap.size w (wr.drewN m)) := fun m => below_drewN HL.out m
        clear heq
        go_upto_region 2 with (fail)
        go_quiet (fail)
        go_wp2
        go_ret
        exact ⟨by rw [HP.out, HT.out]; rfl, HW.out _⟩
    · have g3 : decide ((q : Int) < (n : Int)) = false := by simp; omega
      have HT := Lib.hid (sameB_end (b := b) (i := p) (j := q) (by omega))
      have HW : Hid (∀ m, Below w.heap.size w (wr.drewN m)) := fun m => below_drewN HL.out m
      have g4 : IntKind.i64.wrap (q : Int) = (q : Int) := IntWalk.i64_in _ (by omega)
      have g5 : decide (q < n) = false := by simp; omega
      clear hp hq HS hlt
      go_upto_region 2 with (fail)
      go_quiet (fail)
      go_wp2
      go_ret
      exact ⟨by rw [HP.out, HT.out]; rfl, HW.out _⟩
end Go.Proofs.Ytlmgihnnphmmhaa
namespace Go.Proofs.Ytlmgihnnphmmhaa
set_option linter.unusedVariables false
set_option linter.unusedSimpArgs false

/-- k bytes more, each from d bytes before. -/
def copyB : Bytes → Nat → Nat → Bytes
  | out, _, 0 => out
  | out, d, k + 1 => copyB (out ++ [out.getD (out.length - d) 0]) d k
theorem copyB_length (out : Bytes) (d k : Nat) : (copyB out d k).length = out.length + k := by
  induction k generalizing out with
  | zero => rfl
  | succ k ih => simp only [copyB, ih, List.length_append, List.length_cons, List.length_nil]; omega
/-- One token: what is told then, what is left, the error. -/
def tokB (most : Nat) (out b : Bytes) : Bytes × Bytes × Nat :=
  if (rdVar 0 0 b).2.2 ≠ 0 then (out, b.drop (rdVar 0 0 b).2.1, (rdVar 0 0 b).2.2) else
  if (rdVar 0 0 b).1 / 2 = 0 then (out, b.drop (rdVar 0 0 b).2.1, 22) else
  if (rdVar 0 0 b).1 % 2 = 1 then
    if (rdVar 0 0 (b.drop (rdVar 0 0 b).2.1)).2.2 ≠ 0 then (out, (b.drop (rdVar 0 0 b).2.1).drop (rdVar 0 0 (b.drop (rdVar 0 0 b).2.1)).2.1, (rdVar 0 0 (b.drop (rdVar 0 0 b).2.1)).2.2) else
    if (rdVar 0 0 (b.drop (rdVar 0 0 b).2.1)).1 = 0 ∨ out.length < (rdVar 0 0 (b.drop (rdVar 0 0 b).2.1)).1 then (out, (b.drop (rdVar 0 0 b).2.1).drop (rdVar 0 0 (b.drop (rdVar 0 0 b).2.1)).2.1, 22) else
    if most - out.length < (rdVar 0 0 b).1 / 2 then (out, (b.drop (rdVar 0 0 b).2.1).drop (rdVar 0 0 (b.drop (rdVar 0 0 b).2.1)).2.1, 24) else
    (copyB out (rdVar 0 0 (b.drop (rdVar 0 0 b).2.1)).1 ((rdVar 0 0 b).1 / 2), (b.drop (rdVar 0 0 b).2.1).drop (rdVar 0 0 (b.drop (rdVar 0 0 b).2.1)).2.1, 0)
  else
    if most - out.length < (rdVar 0 0 b).1 / 2 then (out, b.drop (rdVar 0 0 b).2.1, 24) else
    if (b.drop (rdVar 0 0 b).2.1).length < (rdVar 0 0 b).1 / 2 then (out, b.drop (rdVar 0 0 b).2.1, 21) else
    (out ++ (b.drop (rdVar 0 0 b).2.1).take ((rdVar 0 0 b).1 / 2), (b.drop (rdVar 0 0 b).2.1).drop ((rdVar 0 0 b).1 / 2), 0)
theorem rdVar_took : ∀ (b : Bytes) (i v : Nat), (rdVar i v b).2.2 = 0 → 0 < (rdVar i v b).2.1 ∧ (rdVar i v b).2.1 ≤ i + b.length := by
  intro b
  induction b with
  | nil => intro i v h; simp [rdVar] at h
  | cons c r ih =>
    intro i v h
    rw [rdVar_cons] at h ⊢
    split at h
    · simp at h
    · rename_i h1
      split at h
      · rename_i h2
        rw [if_neg h1, if_pos h2]
        have := ih _ _ h
        simp only [List.length_cons]
        omega
      · rename_i h2
        split at h
        · simp at h
        · rename_i h3
          rw [if_neg h1, if_neg h2, if_neg h3]
          simp only [List.length_cons]
          omega
theorem rdVar_took_any (b : Bytes) (i v : Nat) : (rdVar i v b).2.1 ≤ i + b.length := by
  by_cases h : (rdVar i v b).2.2 = 0
  · exact (rdVar_took b i v h).2
  · have : ∀ (b : Bytes) (i v : Nat), (rdVar i v b).2.2 ≠ 0 → (rdVar i v b).2.1 = 0 := by
      intro b
      induction b with
      | nil => intro i v h; rfl
      | cons c r ih =>
        intro i v h
        rw [rdVar_cons] at h ⊢
        split at h
        · rename_i h1; rw [if_pos h1]
        · rename_i h1
          split at h
          · rename_i h2
            rw [if_neg h1, if_pos h2]
            exact ih _ _ h
          · rename_i h2
            split at h
            · rename_i h3
              rw [if_neg h1, if_neg h2, if_pos h3]
            · simp at h
    have := this b i v h
    omega
theorem rdVar_small : ∀ (b : Bytes) (i v : Nat), i ≤ 10 → v < 128 ^ i → v < 18446744073709551616 → (rdVar i v b).1 < 18446744073709551616 := by
  intro b
  induction b with
  | nil => intro i v h _ _; simp [rdVar]
  | cons c r ih =>
    intro i v hi hv h64
    rw [rdVar_cons]
    have hc := UInt8.toNat_lt c
    split
    · simp
    · rename_i h1
      have hm : c.toNat % 128 < 128 := Nat.mod_lt _ (by omega)
      have hle : c.toNat % 128 * 128 ^ i ≤ 127 * 128 ^ i := Nat.mul_le_mul_right _ (by omega)
      have hlt : v + c.toNat % 128 * 128 ^ i < 128 ^ (i + 1) := by rw [Nat.pow_succ]; omega
      have hb : v + c.toNat % 128 * 128 ^ i < 18446744073709551616 := by
        rcases Nat.lt_or_ge i 9 with h | h
        · have hp : 128 ^ (i + 1) ≤ 128 ^ 9 := Nat.pow_le_pow_right (by omega) (by omega)
          have e : (128 : Nat) ^ 9 = 9223372036854775808 := by decide
          omega
        · have : i = 9 := by omega
          subst this
          have e : (128 : Nat) ^ 9 = 9223372036854775808 := by decide
          have h2 : c.toNat % 128 ≤ 1 := by omega
          have h3 : c.toNat % 128 * 128 ^ 9 ≤ 1 * 128 ^ 9 := Nat.mul_le_mul_right _ h2
          omega
      split
      · exact ih _ _ (by omega) hlt hb
      · split
        · simp
        · exact hb
theorem rdVar_lt (b : Bytes) : (rdVar 0 0 b).1 < 18446744073709551616 := rdVar_small b 0 0 (by omega) (by simp) (by omega)
theorem tokB_less {most : Nat} {out b : Bytes} (h : (tokB most out b).2.2 = 0) : (tokB most out b).2.1.length < b.length := by
  unfold tokB at h ⊢
  by_cases h1 : (rdVar 0 0 b).2.2 ≠ 0
  · rw [if_pos h1] at h; exact absurd h h1
  · have ht := rdVar_took b 0 0 (by omega)
    have hd : (b.drop (rdVar 0 0 b).2.1).length < b.length := by rw [List.length_drop]; omega
    rw [if_neg h1] at h ⊢
    split at h
    · cases h
    · rename_i h2
      rw [if_neg h2]
      split at h
      · rename_i h3
        rw [if_pos h3]
        split at h
        · rename_i h4; exact absurd h h4
        · rename_i h4
          rw [if_neg h4]
          split at h
          · cases h
          · rename_i h5
            rw [if_neg h5]
            split at h
            · cases h
            · rename_i h6
              rw [if_neg h6]
              simp only [List.length_drop] at hd ⊢
              omega
      · rename_i h3
        rw [if_neg h3]
        split at h
        · cases h
        · rename_i h4
          rw [if_neg h4]
          split at h
          · cases h
          · rename_i h5
            rw [if_neg h5]
            simp only [List.length_drop] at hd ⊢
            omega
/-- All tokens. -/
def toksB (most : Nat) (out b : Bytes) : Bytes × Nat :=
  if hb : b = [] then (out, 0) else
  if he : (tokB most out b).2.2 = 0 then toksB most (tokB most out b).1 (tokB most out b).2.1 else (out, (tokB most out b).2.2)
termination_by b.length
decreasing_by exact tokB_less he
theorem toksB_nil (most : Nat) (out : Bytes) : toksB most out [] = (out, 0) := by rw [toksB]; simp
theorem toksB_ok {most : Nat} {out b : Bytes} (hb : b ≠ []) (he : (tokB most out b).2.2 = 0) : toksB most out b = toksB most (tokB most out b).1 (tokB most out b).2.1 := by
  conv => lhs; rw [toksB]
  rw [dif_neg hb, dif_pos he]
theorem toksB_bad {most : Nat} {out b : Bytes} (hb : b ≠ []) (he : (tokB most out b).2.2 ≠ 0) : (toksB most out b).2 = (tokB most out b).2.2 := by
  rw [toksB, dif_neg hb, dif_neg he]
/-- What Unpack answers: the bytes, the error. -/
def unpackB (most : Nat) : Bytes → Bytes × Nat
  | [] => ([], 21)
  | k :: b => if k.toNat = 0 then (if most < b.length then ([], 24) else (b, 0)) else if k.toNat = 1 then (if (toksB most [] b).2 = 0 then ((toksB most [] b).1, 0) else ([], (toksB most [] b).2)) else ([], 22)

/-! ### packing -/
/-- The tokens P tell o, whatever follows. -/
def Dec (P o : Bytes) : Prop := ∀ most r, o.length ≤ most → toksB most [] (P ++ r) = toksB most o r
theorem Dec.nil : Dec [] [] := fun _ _ _ => rfl
theorem Dec.lit {P o x : Bytes} (h : Dec P o) (hx : x.length ≤ 2 ^ 40) : Dec (litB P x) (o ++ x) := by
  unfold litB
  split
  · rename_i h0; subst h0; simpa using h
  · rename_i h0
    intro most r hm
    rw [List.length_append] at hm
    have hpos : 0 < x.length := List.length_pos_iff.2 h0
    rw [List.append_assoc, List.append_assoc, h most _ (by omega)]
    have hv : rdVar 0 0 (varB (2 * x.length) ++ (x ++ r)) = (2 * x.length, (varB (2 * x.length)).length, 0) := rdVar_var _ (by omega)
    have hd : (varB (2 * x.length) ++ (x ++ r)).drop (varB (2 * x.length)).length = x ++ r := List.drop_left
    have ht : tokB most o (varB (2 * x.length) ++ (x ++ r)) = (o ++ x, r, 0) := by
      unfold tokB
      simp only [hv, hd]
      rw [if_neg (by simp), if_neg (by omega), if_neg (by omega), if_neg (by omega), show 2 * x.length / 2 = x.length by omega, if_neg (by simp)]
      simp
    have hne : varB (2 * x.length) ++ (x ++ r) ≠ [] := by
      intro h1
      have := congrArg List.length h1
      simp only [List.length_append, List.length_nil] at this
      omega
    rw [toksB_ok hne (by rw [ht]), ht]
theorem Dec.cop {P o : Bytes} (h : Dec P o) {n d : Nat} (hn : 0 < n) (hn2 : n ≤ 2 ^ 40) (hd : 0 < d) (hd2 : d ≤ o.length) (hd3 : d ≤ 2 ^ 40) : Dec (copB P n d) (copyB o d n) := by
  intro most r hm
  rw [copyB_length] at hm
  unfold copB
  rw [List.append_assoc, List.append_assoc, h most _ (by omega)]
  have hv : rdVar 0 0 (varB (2 * n + 1) ++ (varB d ++ r)) = (2 * n + 1, (varB (2 * n + 1)).length, 0) := rdVar_var _ (by omega)
  have hv2 : rdVar 0 0 (varB d ++ r) = (d, (varB d).length, 0) := rdVar_var _ (by omega)
  have hdr : (varB (2 * n + 1) ++ (varB d ++ r)).drop (varB (2 * n + 1)).length = varB d ++ r := List.drop_left
  have hdr2 : (varB d ++ r).drop (varB d).length = r := List.drop_left
  have ht : tokB most o (varB (2 * n + 1) ++ (varB d ++ r)) = (copyB o d n, r, 0) := by
    unfold tokB
    simp only [hv, hdr, hv2, hdr2]
    rw [if_neg (by simp), if_neg (by omega), if_pos (by omega), if_neg (by simp), if_neg (by omega), if_neg (by omega), show (2 * n + 1) / 2 = n by omega]
  have hne : varB (2 * n + 1) ++ (varB d ++ r) ≠ [] := by
    intro h1
    have h2 := congrArg List.length h1
    have := varB_pos d
    simp only [List.length_append, List.length_nil] at h2
    omega
  rw [toksB_ok hne (by rw [ht]), ht]
/-- A copy of what stands there already. -/
theorem copyB_same (b : Bytes) (i j : Nat) (hij : i < j) : ∀ (k : Nat), j + k ≤ b.length → (∀ m, m < k → b.getD (i + m) 0 = b.getD (j + m) 0) → copyB (b.take j) (j - i) k = b.take (j + k) := by
  intro k
  induction k generalizing i j with
  | zero => intro _ _; rfl
  | succ k ih =>
    intro hl hs
    have h0 : b.getD i 0 = b.getD j 0 := hs 0 (by omega)
    unfold copyB
    have e1 : (b.take j).getD ((b.take j).length - (j - i)) 0 = b.getD j 0 := by
      rw [List.length_take, show min j b.length = j by omega, show j - (j - i) = i by omega, ← h0]
      simp [List.getD_eq_getElem?_getD, List.getElem?_take, hij]
    have e2 : b.take j ++ [b.getD j 0] = b.take (j + 1) := by
      rw [List.take_succ_eq_append_getElem (by omega)]
      simp [List.getD_eq_getElem?_getD, show j < b.length by omega]
    rw [e1, e2, show j - i = (j + 1) - (i + 1) by omega, ih (i + 1) (j + 1) (by omega) (by omega) (fun m hm => by
      have := hs (m + 1) (by omega)
      rw [show i + 1 + m = i + (m + 1) by omega, show j + 1 + m = j + (m + 1) by omega]
      exact this)]
    rw [show j + 1 + k = j + (k + 1) by omega]
theorem sameB_le (b : Bytes) (i j : Nat) : j + sameB b i j ≤ max j b.length := by
  have := lcp_le (b.drop i) (b.drop j)
  unfold sameB
  rw [List.length_drop] at this
  omega
theorem sameB_eq (b : Bytes) (i j : Nat) : ∀ m, m < sameB b i j → b.getD (i + m) 0 = b.getD (j + m) 0 := by
  intro m hm
  have h := lcp_same (b.drop i) (b.drop j)
  have h2 := congrArg (fun l : Bytes => l.getD m 0) h
  simp only [List.getD_eq_getElem?_getD, List.getElem?_take, List.getElem?_drop] at h2
  unfold sameB at hm
  rw [if_pos hm, if_pos hm] at h2
  simpa [List.getD_eq_getElem?_getD] using h2
end Go.Proofs.Ytlmgihnnphmmhaa
namespace Go.Proofs.Ytlmgihnnphmmhaa
open Go.RowKit
set_option linter.unusedVariables false
set_option linter.unusedSimpArgs false

/-- The reader at R: what is left, what is told. -/
structure RdAt (w0 w : World) (R : Nat) (b out : Bytes) (most : Nat) (A A2 : Option Addr) (c c2 : Nat) (l k : Int) : Prop where
  r0 : w.cell? ⟨R, 0, none⟩ = some (.slice A b.length c)
  r1 : w.cell? ⟨R, 1, none⟩ = some (.slice A2 out.length c2)
  r2 : w.cell? ⟨R, 2, none⟩ = some (.int .i64 most)
  r3 : w.cell? ⟨R, 3, none⟩ = some (.int .i64 l)
  r4 : w.cell? ⟨R, 4, none⟩ = some (.int .i64 k)
  z : ∀ j, w.frozen? ⟨R, j, none⟩ = false
  sb : SBy w A b.length b
  nc : b.length ≤ c
  far : ∀ g o, A = some ⟨g, o, none⟩ → g < R
  ow : OwB (R + 1) w (.slice A2 out.length c2) out
  bel : Below R w0 w
  up : w0.heap.size ≤ R
  lb : b.length ≤ 2 ^ 30
  lo : out.length ≤ most
  lm : most ≤ 2 ^ 20
section
variable {w0 w : World} {R : Nat} {b out : Bytes} {most : Nat} {A A2 : Option Addr} {c c2 : Nat} {l k : Int}
theorem RdAt.lt (h : RdAt w0 w R b out most A A2 c c2 l k) : R < w.heap.size := lt_of_cell h.r0
theorem RdAt.setB (h : RdAt w0 w R b out most A A2 c c2 l k) {b' : Bytes} {A' : Option Addr} {c' : Nat} (hs : SBy w A' b'.length b') (hc : b'.length ≤ c') (hf : ∀ g o, A' = some ⟨g, o, none⟩ → g < R) (hl : b'.length ≤ 2 ^ 30) :
    RdAt w0 (w.setCell ⟨R, 0, none⟩ (.slice A' b'.length c')) R b' out most A' A2 c' c2 l k := by
  have ho : Off (· = R) w (w.setCell ⟨R, 0, none⟩ (.slice A' b'.length c')) := (Off.refl (· = R) w).setCell (p := ⟨R, 0, none⟩) rfl _
  have hc2 : ∀ j : Nat, j ≠ 0 → (w.setCell ⟨R, 0, none⟩ (.slice A' b'.length c')).cell? ⟨R, j, none⟩ = w.cell? ⟨R, j, none⟩ := fun j hj => World.cell?_setCell_other _ _ _ _ (fun e => hj (by injection e with e1 e2; exact e2.symm))
  refine ⟨World.cell?_setCell_same _ _ _ h.r0, (hc2 1 (by omega)).trans h.r1, (hc2 2 (by omega)).trans h.r2, (hc2 3 (by omega)).trans h.r3, (hc2 4 (by omega)).trans h.r4, fun j => by rw [World.frozen?_setCell]; exact h.z j,
    hs.off ho (fun g o e => by have := hf g o e; show ¬ g = R; omega), hc, hf, h.ow.off ho (fun g e => by have := (h.ow.lt g e).1; show ¬ g = R; omega), h.bel.setCell (Nat.le_refl _) _, h.up, hl, h.lo, h.lm⟩
theorem RdAt.set3 (h : RdAt w0 w R b out most A A2 c c2 l k) (x : Int) : RdAt w0 (w.setCell ⟨R, 3, none⟩ (.int .i64 x)) R b out most A A2 c c2 x k := by
  have ho : Off (· = R) w (w.setCell ⟨R, 3, none⟩ (.int .i64 x)) := (Off.refl (· = R) w).setCell (p := ⟨R, 3, none⟩) rfl _
  have hc2 : ∀ j : Nat, j ≠ 3 → (w.setCell ⟨R, 3, none⟩ (.int .i64 x)).cell? ⟨R, j, none⟩ = w.cell? ⟨R, j, none⟩ := fun j hj => World.cell?_setCell_other _ _ _ _ (fun e => hj (by injection e with e1 e2; exact e2.symm))
  exact ⟨(hc2 0 (by omega)).trans h.r0, (hc2 1 (by omega)).trans h.r1, (hc2 2 (by omega)).trans h.r2, World.cell?_setCell_same _ _ _ h.r3, (hc2 4 (by omega)).trans h.r4, fun j => by rw [World.frozen?_setCell]; exact h.z j,
    h.sb.off ho (fun g o e => by have := h.far g o e; show ¬ g = R; omega), h.nc, h.far, h.ow.off ho (fun g e => by have := (h.ow.lt g e).1; show ¬ g = R; omega), h.bel.setCell (Nat.le_refl _) _, h.up, h.lb, h.lo, h.lm⟩
theorem RdAt.set4 (h : RdAt w0 w R b out most A A2 c c2 l k) (x : Int) : RdAt w0 (w.setCell ⟨R, 4, none⟩ (.int .i64 x)) R b out most A A2 c c2 l x := by
  have ho : Off (· = R) w (w.setCell ⟨R, 4, none⟩ (.int .i64 x)) := (Off.refl (· = R) w).setCell (p := ⟨R, 4, none⟩) rfl _
  have hc2 : ∀ j : Nat, j ≠ 4 → (w.setCell ⟨R, 4, none⟩ (.int .i64 x)).cell? ⟨R, j, none⟩ = w.cell? ⟨R, j, none⟩ := fun j hj => World.cell?_setCell_other _ _ _ _ (fun e => hj (by injection e with e1 e2; exact e2.symm))
  exact ⟨(hc2 0 (by omega)).trans h.r0, (hc2 1 (by omega)).trans h.r1, (hc2 2 (by omega)).trans h.r2, (hc2 3 (by omega)).trans h.r3, World.cell?_setCell_same _ _ _ h.r4, fun j => by rw [World.frozen?_setCell]; exact h.z j,
    h.sb.off ho (fun g o e => by have := h.far g o e; show ¬ g = R; omega), h.nc, h.far, h.ow.off ho (fun g e => by have := (h.ow.lt g e).1; show ¬ g = R; omega), h.bel.setCell (Nat.le_refl _) _, h.up, h.lb, h.lo, h.lm⟩
/-- What was told has grown: a world behind an append. -/
theorem RdAt.setOut {w1 : World} {A' : Option Addr} {c' : Nat} {out' : Bytes} (h : RdAt w0 w R b out most A A2 c c2 l k) (ho1 : Off (fun g => Value.ownBlock (.slice A2 out.length c2) = some g) w w1) (how : OwB (R + 1) w1 (.slice A' out'.length c') out') (hm : out'.length ≤ most) :
    RdAt w0 (w1.setCell ⟨R, 1, none⟩ (.slice A' out'.length c')) R b out' most A A' c c' l k := by
  have hR : ¬ Value.ownBlock (.slice A2 out.length c2) = some R := fun e => by have := (h.ow.lt R e).1; omega
  have hR' : ∀ j, w1.cell? ⟨R, j, none⟩ = w.cell? ⟨R, j, none⟩ := fun j => ho1.cell (p := ⟨R, j, none⟩) h.lt hR
  have ho : Off (· = R) w1 (w1.setCell ⟨R, 1, none⟩ (.slice A' out'.length c')) := (Off.refl (· = R) w1).setCell (p := ⟨R, 1, none⟩) rfl _
  have hc2 : ∀ j : Nat, j ≠ 1 → (w1.setCell ⟨R, 1, none⟩ (.slice A' out'.length c')).cell? ⟨R, j, none⟩ = w.cell? ⟨R, j, none⟩ := fun j hj => (World.cell?_setCell_other _ _ _ _ (fun e => hj (by injection e with e1 e2; exact e2.symm))).trans (hR' j)
  refine ⟨(hc2 0 (by omega)).trans h.r0, World.cell?_setCell_same _ _ _ ((hR' 1).trans h.r1), (hc2 2 (by omega)).trans h.r2, (hc2 3 (by omega)).trans h.r3, (hc2 4 (by omega)).trans h.r4, fun j => by rw [World.frozen?_setCell]; exact (ho1.frozen (p := ⟨R, j, none⟩) h.lt hR).trans (h.z j),
    (h.sb.off ho1 (fun g o e e2 => by have h1 := h.far g o e; have := (h.ow.lt g e2).1; omega)).off ho (fun g o e => by have := h.far g o e; show ¬ g = R; omega), h.nc, h.far, how.off ho (fun g e => by have := (how.lt g e).1; show ¬ g = R; omega),
    (h.bel.trans (ho1.below (fun g e => by have := (h.ow.lt g e).1; omega) (Nat.le_of_lt h.lt))).setCell (Nat.le_refl _) _, h.up, h.lb, hm, h.lm⟩
theorem RdAt.alloc (h : RdAt w0 w R b out most A A2 c c2 l k) {w1 : World} (hb : Below w.heap.size w w1) : RdAt w0 w1 R b out most A A2 c c2 l k := by
  have hc : ∀ j, w1.cell? ⟨R, j, none⟩ = w.cell? ⟨R, j, none⟩ := fun j => hb.cell (p := ⟨R, j, none⟩) h.lt
  exact ⟨(hc 0).trans h.r0, (hc 1).trans h.r1, (hc 2).trans h.r2, (hc 3).trans h.r3, (hc 4).trans h.r4, fun j => (hb.frozen (p := ⟨R, j, none⟩) h.lt).trans (h.z j), h.sb.up hb, h.nc, h.far, h.ow.up hb, h.bel.trans (hb.mono (Nat.le_of_lt h.lt)), h.up, h.lb, h.lo, h.lm⟩
end

def NextPost (w0 : World) (R : Nat) (b out : Bytes) (most : Nat) (A2 : Option Addr) (c2 : Nat) (l k : Int) (e : Ending) (w' : World) : Prop :=
  e = .returned (.tuple #[.int .u64 ((rdVar 0 0 b).1 : Nat), .int .i64 ((rdVar 0 0 b).2.2 : Nat)]) ∧ ∃ A' c', RdAt w0 w' R (b.drop (rdVar 0 0 b).2.1) out most A' A2 c' c2 l k

set_option maxRecDepth 100000 in
set_option maxHeartbeats 1000000 in
theorem next_any {w0 w : World} {R : Nat} {b out : Bytes} {most : Nat} {A A2 : Option Addr} {c c2 : Nat} {l k : Int} (h : RdAt w0 w R b out most A A2 c c2 l k) :
    Calls Try.prog 110 #[.pointer (some ⟨R, 0, none⟩)] w (NextPost w0 R b out most A2 c2 l k) := by
  have r0 := h.r0
  have z0 := h.z 0
  have hlb := h.lb
  have hnc := h.nc
  have HV := Lib.hid (readVar_any w A b.length c b h.sb (by omega))
  have hn := rdVar_took_any b 0 0
  rw [Nat.zero_add] at hn
  obtain ⟨n, hn2⟩ : ∃ n, n = (rdVar 0 0 b).2.1 := ⟨_, rfl⟩
  rw [← hn2] at hn
  have HN := Lib.hid hn2
  cases A with
  | none =>
    have hb0 : b.length = 0 := by
      rcases Nat.eq_zero_or_pos b.length with h1 | h1
      · exact h1
      · obtain ⟨g, o, h2, _⟩ := h.sb.2 h1
        cases h2
    have hbn : b = [] := by simpa using hb0
    subst hbn
    obtain rfl : n = 0 := by simpa using hn
    have HX : Hid (∀ c', RdAt w0 (w.setCell ⟨R, 0, none⟩ (.slice none 0 c')) R [] out most none A2 c' c2 l k) := fun c' => h.setB (b' := []) (SBy.nil _ _) (by simp) (fun g o e => by cases e) (by simp)
    clear h hn hn2
    go_enter Try.func110, Try.ntmps110
    go_wp2_with fail
    refine HV.out.mono ?_
    rintro _ w1 ⟨rfl, rfl⟩
    rw [← HN.out]
    go_wp2
    go_ret2
    exact ⟨rfl, _, _, HX.out _⟩
  | some a =>
    obtain ⟨g, o, sp⟩ := a
    by_cases hb0 : b.length = 0
    · have hbn : b = [] := by simpa using hb0
      subst hbn
      obtain rfl : n = 0 := by simpa using hn
      have HX : Hid (∀ A' c', (∀ g o, A' = some ⟨g, o, none⟩ → g < R) → RdAt w0 (w.setCell ⟨R, 0, none⟩ (.slice A' 0 c')) R [] out most A' A2 c' c2 l k) := fun A' c' hf => h.setB (b' := []) (SBy.nil _ _) (by simp) hf (by simp)
      have HF := Lib.hid h.far
      clear h hn hn2
      go_enter Try.func110, Try.ntmps110
      go_wp2_with fail
      refine HV.out.mono ?_
      rintro _ w1 ⟨rfl, rfl⟩
      rw [← HN.out]
      go_wp2
      go_ret2
      exact ⟨rfl, _, _, HX.out _ _ HF.out⟩
    · obtain ⟨g', o', e1, hg, _⟩ := h.sb.2 (by omega)
      cases e1
      have HX : Hid (RdAt w0 (w.setCell ⟨R, 0, none⟩ (.slice (some ⟨g, o + n, none⟩) (b.length - n) (c - n))) R (b.drop n) out most (some ⟨g, o + n, none⟩) A2 (c - n) c2 l k) := by
        have hp := h.sb.part n b.length hn (Nat.le_refl _)
        rw [List.take_of_length_le (by simp)] at hp
        have := h.setB (b' := b.drop n) (A' := some ⟨g, o + n, none⟩) (c' := c - n) (by rw [List.length_drop]; exact hp) (by rw [List.length_drop]; omega) (fun g' o' e => by cases e; exact h.far _ _ rfl) (by rw [List.length_drop]; omega)
        rw [List.length_drop] at this
        exact this
      have HX2 : Hid (c = n → RdAt w0 (w.setCell ⟨R, 0, none⟩ (.slice (some ⟨g, o, none⟩) (b.length - n) 0)) R (b.drop n) out most (some ⟨g, o, none⟩) A2 0 c2 l k) := by
        intro hcn
        have hbd : b.drop n = [] := List.drop_eq_nil_of_le (by omega)
        have := h.setB (b' := []) (A' := some ⟨g, o, none⟩) (c' := 0) (SBy.nil _ _) (by simp) (fun g' o' e => by cases e; exact h.far _ _ rfl) (by simp)
        rw [hbd, show b.length - n = 0 by omega]
        exact this
      have hg2 : (n : Int) ≤ (b.length : Int) := by omega
      clear h hn2
      go_enter Try.func110, Try.ntmps110
      go_wp2_with fail
      refine HV.out.mono ?_
      rintro _ w1 ⟨rfl, rfl⟩
      rw [← HN.out]
      go_wp2
      · go_ret2
        exact ⟨rfl, _, _, by rw [← HN.out]; exact HX2.out (by assumption)⟩
      · go_ret2
        exact ⟨rfl, _, _, by rw [← HN.out]; exact HX.out⟩
end Go.Proofs.Ytlmgihnnphmmhaa
namespace Go.Proofs.Ytlmgihnnphmmhaa
set_option linter.unusedVariables false
set_option linter.unusedSimpArgs false

/-- The best of some places. -/
def bestGo (b : Bytes) (at_ : Nat) : List Nat → Nat × Nat → Nat × Nat
  | [], r => r
  | i :: is, r => bestGo b at_ is (if r.1 < sameB b i at_ then (sameB b i at_, i) else r)
theorem bestGo_append (b : Bytes) (at_ : Nat) (l m : List Nat) (r : Nat × Nat) : bestGo b at_ (l ++ m) r = bestGo b at_ m (bestGo b at_ l r) := by
  induction l generalizing r with
  | nil => rfl
  | cons i l ih => exact ih _
theorem bestGo_mem (b : Bytes) (at_ : Nat) (l : List Nat) (r : Nat × Nat) : bestGo b at_ l r = r ∨ ∃ i ∈ l, bestGo b at_ l r = (sameB b i at_, i) := by
  induction l generalizing r with
  | nil => exact .inl rfl
  | cons i l ih =>
    rcases ih (if r.1 < sameB b i at_ then (sameB b i at_, i) else r) with h | ⟨j, hj, h⟩
    · unfold bestGo
      rw [h]
      split
      · exact .inr ⟨i, by simp, rfl⟩
      · exact .inl rfl
    · exact .inr ⟨j, by simp [hj], h⟩
def seenL (b : Bytes) (N : List Nat) (k : Nat) : List Nat := N.filter fun i => keyB b i == k
def bestOf (b : Bytes) (N : List Nat) (at_ : Nat) : Nat × Nat := bestGo b at_ ((seenL b N (keyB b at_)).reverse.take 24) (0, 0)
theorem bestOf_spec (b : Bytes) (N : List Nat) (at_ : Nat) (h : (bestOf b N at_).1 ≠ 0) : (bestOf b N at_).2 ∈ N ∧ (bestOf b N at_).1 = sameB b (bestOf b N at_).2 at_ := by
  unfold bestOf at *
  rcases bestGo_mem b at_ ((seenL b N (keyB b at_)).reverse.take 24) (0, 0) with h1 | ⟨i, hi, h1⟩
  · rw [h1] at h; exact absurd rfl h
  · rw [h1]
    have := List.mem_of_mem_take hi
    simp only [List.mem_reverse, seenL, List.mem_filter] at this
    exact ⟨this.1, rfl⟩
def noteL (b : Bytes) (N : List Nat) (i : Nat) : List Nat := if i + 4 ≤ b.length then N ++ [i] else N
def notes (b : Bytes) (N : List Nat) (at_ : Nat) : Nat → List Nat
  | 0 => N
  | k + 1 => noteL b (notes b N at_ k) (at_ + k)
theorem noteL_lt {b : Bytes} {N : List Nat} {i : Nat} (h : ∀ x ∈ N, x < i) : ∀ x ∈ noteL b N i, x < i + 1 := by
  intro x hx
  unfold noteL at hx
  split at hx
  · simp only [List.mem_append, List.mem_singleton] at hx
    rcases hx with hx | rfl
    · have := h x hx; omega
    · omega
  · have := h x hx; omega
theorem notes_lt {b : Bytes} {N : List Nat} {at_ : Nat} (h : ∀ x ∈ N, x < at_) (k : Nat) : ∀ x ∈ notes b N at_ k, x < at_ + k := by
  induction k with
  | zero => exact h
  | succ k ih => exact noteL_lt ih
theorem bestOf_le (b : Bytes) (N : List Nat) (at_ : Nat) (h : at_ ≤ b.length) : at_ + (bestOf b N at_).1 ≤ b.length := by
  by_cases h0 : (bestOf b N at_).1 = 0
  · omega
  · have h1 := (bestOf_spec b N at_ h0).2
    have h2 := sameB_le b (bestOf b N at_).2 at_
    omega
def greedyGo (b : Bytes) (at_ from_ : Nat) (N : List Nat) (out : Bytes) : Bytes :=
  if h : at_ + 4 ≤ b.length then
    if hb : (bestOf b N at_).1 < 6 then greedyGo b (at_ + 1) from_ (noteL b N at_) out
    else greedyGo b (at_ + (bestOf b N at_).1) (at_ + (bestOf b N at_).1) (notes b N at_ (min (bestOf b N at_).1 64)) (copB (litB out ((b.drop from_).take (at_ - from_))) (bestOf b N at_).1 (at_ - (bestOf b N at_).2))
  else litB out (b.drop from_)
termination_by b.length - at_
theorem greedyGo_end {b : Bytes} {at_ from_ : Nat} {N : List Nat} {out : Bytes} (h : b.length < at_ + 4) : greedyGo b at_ from_ N out = litB out (b.drop from_) := by rw [greedyGo, dif_neg (by omega)]
theorem greedyGo_note {b : Bytes} {at_ from_ : Nat} {N : List Nat} {out : Bytes} (h : at_ + 4 ≤ b.length) (hb : (bestOf b N at_).1 < 6) : greedyGo b at_ from_ N out = greedyGo b (at_ + 1) from_ (noteL b N at_) out := by
  conv => lhs; rw [greedyGo]
  rw [dif_pos h, dif_pos hb]
theorem greedyGo_copy {b : Bytes} {at_ from_ : Nat} {N : List Nat} {out : Bytes} (h : at_ + 4 ≤ b.length) (hb : ¬ (bestOf b N at_).1 < 6) :
    greedyGo b at_ from_ N out = greedyGo b (at_ + (bestOf b N at_).1) (at_ + (bestOf b N at_).1) (notes b N at_ (min (bestOf b N at_).1 64)) (copB (litB out ((b.drop from_).take (at_ - from_))) (bestOf b N at_).1 (at_ - (bestOf b N at_).2)) := by
  conv => lhs; rw [greedyGo]
  rw [dif_pos h, dif_neg hb]
def greedyB (b : Bytes) : Bytes := greedyGo b 0 0 [] [1]

/-- What is packed so far tells what was gone over. -/
theorem litB_cons (k : UInt8) (P x : Bytes) : litB (k :: P) x = k :: litB P x := by
  unfold litB
  split <;> simp
theorem copB_cons (k : UInt8) (P : Bytes) (n d : Nat) : copB (k :: P) n d = k :: copB P n d := by simp [copB]
theorem greedyGo_dec (b : Bytes) (hb : b.length ≤ 2 ^ 40) : ∀ (m at_ from_ : Nat) (N : List Nat) (P : Bytes), b.length - at_ ≤ m → at_ ≤ b.length → from_ ≤ at_ → (∀ x ∈ N, x < at_) → Dec P (b.take from_) →
    ∃ Q, greedyGo b at_ from_ N (1 :: P) = 1 :: Q ∧ Dec Q b := by
  intro m
  induction m with
  | zero =>
    intro at_ from_ N P hm ha hf hN hP
    rw [greedyGo_end (by omega), litB_cons]
    refine ⟨_, rfl, ?_⟩
    have := hP.lit (x := b.drop from_) (by rw [List.length_drop]; omega)
    rwa [List.take_append_drop] at this
  | succ m ih =>
    intro at_ from_ N P hm ha hf hN hP
    by_cases h : at_ + 4 ≤ b.length
    · by_cases hb6 : (bestOf b N at_).1 < 6
      · rw [greedyGo_note h hb6]
        exact ih (at_ + 1) from_ _ P (by omega) (by omega) (by omega) (noteL_lt hN) hP
      · rw [greedyGo_copy h hb6, litB_cons, copB_cons]
        have hs := bestOf_spec b N at_ (by omega)
        have hle := bestOf_le b N at_ ha
        have hlt := hN _ hs.1
        refine ih _ _ _ _ (by omega) hle (Nat.le_refl _) ?_ ?_
        · intro x hx
          have := notes_lt hN (min (bestOf b N at_).1 64) x hx
          omega
        · have h1 := hP.lit (x := (b.drop from_).take (at_ - from_)) (by rw [List.length_take, List.length_drop]; omega)
          have e1 : b.take from_ ++ (b.drop from_).take (at_ - from_) = b.take at_ := by
            rw [← List.take_add]; congr 1; omega
          rw [e1] at h1
          have hl : (b.take at_).length = at_ := by rw [List.length_take]; omega
          have h2 := h1.cop (n := (bestOf b N at_).1) (d := at_ - (bestOf b N at_).2) (by omega) (by omega) (by omega) (by omega) (by omega)
          rw [copyB_same b (bestOf b N at_).2 at_ hlt _ hle (fun k hk => by
            rw [hs.2] at hk
            exact sameB_eq b _ _ k hk)] at h2
          exact h2
    · rw [greedyGo_end (by omega), litB_cons]
      refine ⟨_, rfl, ?_⟩
      have := hP.lit (x := b.drop from_) (by rw [List.length_drop]; omega)
      rwa [List.take_append_drop] at this
theorem unpackB_dec {Q b : Bytes} {most : Nat} (h : Dec Q b) (hm : b.length ≤ most) : unpackB most (1 :: Q) = (b, 0) := by
  have := h most [] hm
  rw [List.append_nil, toksB_nil] at this
  simp [unpackB, this]
theorem greedyB_unpack {b : Bytes} {most : Nat} (hb : b.length ≤ 2 ^ 40) (hm : b.length ≤ most) : unpackB most (greedyB b) = (b, 0) := by
  obtain ⟨Q, h1, h2⟩ := greedyGo_dec b hb b.length 0 0 [] [] (by omega) (by omega) (by omega) (by simp) (by rw [List.take_zero]; exact Dec.nil)
  unfold greedyB
  rw [h1]
  exact unpackB_dec h2 hm
/-- Halves that are the same. -/
def halvesB (b : Bytes) : Bytes :=
  if b.length / 2 = 0 ∨ b.length % 2 = 1 ∨ b.take (b.length / 2) ≠ b.drop (b.length / 2) then [] else copB (litB [1] (b.take (b.length / 2))) (b.length / 2) (b.length / 2)
theorem copyB_self (x y : Bytes) : ∀ k, k ≤ y.length → copyB (x ++ y) y.length k = x ++ y ++ y.take k := by
  intro k
  induction k with
  | zero => intro _; simp [copyB]
  | succ k ih =>
    intro h
    have e := copyB_length (x ++ y) y.length k
    have : copyB (x ++ y) y.length (k + 1) = copyB (x ++ y) y.length k ++ [(copyB (x ++ y) y.length k).getD ((copyB (x ++ y) y.length k).length - y.length) 0] := by
      clear ih h e
      generalize y.length = d
      generalize x ++ y = o
      induction k generalizing o with
      | zero => rfl
      | succ k ih =>
        conv => lhs; unfold copyB
        rw [ih]
        rfl
    rw [this, ih (by omega)]
    have hl : (x ++ y ++ y.take k).length = x.length + y.length + k := by simp; omega
    rw [hl, show x.length + y.length + k - y.length = x.length + k by omega]
    have hg : (x ++ y ++ y.take k).getD (x.length + k) 0 = y.getD k 0 := by
      simp [List.getD_eq_getElem?_getD, List.getElem?_append, show ¬ x.length + k < x.length by omega, show k < y.length by omega]
    rw [hg, List.append_assoc (x ++ y), List.take_succ_eq_append_getElem (show k < y.length by omega)]
    simp [List.getD_eq_getElem?_getD, show k < y.length by omega]
theorem halvesB_unpack {b : Bytes} {most : Nat} (hb : b.length ≤ 2 ^ 40) (hm : b.length ≤ most) (h : halvesB b ≠ []) : unpackB most (halvesB b) = (b, 0) := by
  unfold halvesB at h ⊢
  split at h
  · exact absurd rfl h
  · rename_i h0
    rw [if_neg h0, litB_cons, copB_cons]
    refine unpackB_dec ?_ hm
    have h1 : b.length / 2 ≠ 0 := fun e => h0 (.inl e)
    have h2 : b.length % 2 ≠ 1 := fun e => h0 (.inr (.inl e))
    have h3 : b.take (b.length / 2) = b.drop (b.length / 2) := Classical.byContradiction fun e => h0 (.inr (.inr e))
    have hl : (b.take (b.length / 2)).length = b.length / 2 := by rw [List.length_take]; omega
    have hd := Dec.nil.lit (x := b.take (b.length / 2)) (by rw [hl]; omega)
    have hc := hd.cop (n := b.length / 2) (d := b.length / 2) (by omega) (by omega) (by omega) (by simp [hl]) (by omega)
    have e : copyB ([] ++ b.take (b.length / 2)) (b.length / 2) (b.length / 2) = b := by
      have := copyB_self [] (b.take (b.length / 2)) (b.length / 2) (by omega)
      rw [hl] at this
      rw [this, List.take_take, Nat.min_self, List.nil_append]
      conv => lhs; rhs; rw [h3]
      exact List.take_append_drop _ _
    rw [e] at hc
    exact hc
/-- Pack. -/
def better (best x : Bytes) : Bytes := if 0 < x.length ∧ x.length < best.length then x else best
def packB (b : Bytes) : Bytes := better (better (0 :: b) (greedyB b)) (halvesB b)
theorem better_le (best x : Bytes) : (better best x).length ≤ best.length := by unfold better; split <;> omega
theorem better_le2 {best x : Bytes} (h : 0 < x.length) : (better best x).length ≤ x.length := by unfold better; split <;> omega
theorem packB_le (b : Bytes) : (packB b).length ≤ b.length + 1 := by
  have h1 := better_le (better (0 :: b) (greedyB b)) (halvesB b)
  have h2 := better_le (0 :: b) (greedyB b)
  unfold packB
  simp only [List.length_cons] at h2
  omega
theorem better_unpack {best x b : Bytes} {most : Nat} (h1 : unpackB most best = (b, 0)) (h2 : 0 < x.length → unpackB most x = (b, 0)) : unpackB most (better best x) = (b, 0) := by
  unfold better
  split
  · rename_i h; exact h2 h.1
  · exact h1
theorem packB_unpack {b : Bytes} {most : Nat} (hb : b.length ≤ 2 ^ 40) (hm : b.length ≤ most) : unpackB most (packB b) = (b, 0) := by
  refine better_unpack (better_unpack ?_ fun _ => greedyB_unpack hb hm) fun h => halvesB_unpack hb hm (by intro e; rw [e] at h; simp at h)
  simp only [unpackB]
  rw [if_pos (by decide), if_neg (by omega)]
/-- The bounds that the walk wants. -/
theorem greedy_len {b out : Bytes} {at_ from_ best d : Nat} (ho : out.length ≤ 1 + 5 * from_) (hf : from_ ≤ at_) (ha : at_ + best ≤ b.length) (h6 : 6 ≤ best) (hb : b.length ≤ 2 ^ 20) (hd : d ≤ at_) :
    (copB (litB out ((b.drop from_).take (at_ - from_))) best d).length ≤ 1 + 5 * (at_ + best) := by
  have h1 := litB_le out ((b.drop from_).take (at_ - from_)) (by rw [List.length_take, List.length_drop]; omega)
  have h2 := copB_le (litB out ((b.drop from_).take (at_ - from_))) best d (by omega) (by omega)
  rw [List.length_take, List.length_drop] at h1
  omega

/-! ### equal bytes -/
theorem lcp_rep (x : UInt8) : ∀ m n : Nat, lcp (List.replicate m x) (List.replicate n x) = min m n := by
  intro m
  induction m with
  | zero => intro n; simp [lcp]
  | succ m ih =>
    intro n
    cases n with
    | zero => simp [lcp]
    | succ n => simp only [List.replicate_succ, lcp, if_true, ih]; omega
theorem le8_rep (x : UInt8) : ∀ (k m n : Nat), k ≤ m → k ≤ n → le8 (List.replicate m x) k = le8 (List.replicate n x) k := by
  intro k
  induction k with
  | zero => intro m n _ _; rfl
  | succ k ih =>
    intro m n h1 h2
    have e : ∀ m, k < m → at8 (List.replicate m x) k = x.toNat := fun m hm => by simp [at8, List.getD_eq_getElem?_getD, hm]
    simp only [le8, ih m n (by omega) (by omega), e m (by omega), e n (by omega)]
theorem greedyB_rep (x : UInt8) {n : Nat} (h8 : 8 ≤ n) (hn : n ≤ 4096) : (greedyB (List.replicate n x)).length ≤ 6 := by
  have hl : (List.replicate n x).length = n := by simp
  have key : ∀ i, i + 4 ≤ n → keyB (List.replicate n x) i = keyB (List.replicate n x) 0 := fun i hi => by
    unfold keyB
    rw [List.drop_replicate, List.drop_replicate]
    exact le8_rep x 4 _ _ (by omega) (by omega)
  unfold greedyB
  have hb0 : bestOf (List.replicate n x) [] 0 = (0, 0) := by simp [bestOf, seenL, bestGo]
  rw [greedyGo_note (by omega) (by rw [hb0]; omega)]
  have hN : noteL (List.replicate n x) [] 0 = [0] := by unfold noteL; rw [if_pos (by omega)]; rfl
  rw [hN]
  have hs : sameB (List.replicate n x) 0 1 = n - 1 := by unfold sameB; rw [List.drop_replicate, List.drop_replicate, lcp_rep]; omega
  have hb1 : bestOf (List.replicate n x) [0] (0 + 1) = (n - 1, 0) := by
    unfold bestOf
    have : seenL (List.replicate n x) [0] (keyB (List.replicate n x) (0 + 1)) = [0] := by
      simp only [seenL, List.filter_cons, List.filter_nil, Nat.zero_add, key 1 (by omega)]
      simp
    rw [this]
    simp only [List.reverse_cons, List.reverse_nil, List.nil_append, List.take_succ_cons, List.take_nil, bestGo, Nat.zero_add, hs]
    rw [if_pos (by omega)]
  rw [greedyGo_copy (by omega) (by rw [hb1]; simp only; omega), hb1]
  simp only
  rw [greedyGo_end (by omega)]
  have e1 : (List.replicate n x).drop (0 + 1 + (n - 1)) = [] := List.drop_eq_nil_of_le (by omega)
  have e2 : ((List.replicate n x).drop 0).take (0 + 1 - 0) = [x] := by
    obtain ⟨m, rfl⟩ : ∃ m, n = m + 1 := ⟨n - 1, by omega⟩
    simp [List.replicate_succ]
  rw [e1, e2]
  have e3 : litB [1] [x] = [1, 2, x] := by
    unfold litB
    rw [if_neg (by simp)]
    simp [varB_lo, b8]
  have e4 : varB 1 = [1] := by rw [varB_lo (by omega)]; rfl
  have h2 : (varB (2 * (n - 1) + 1)).length ≤ 2 := varB_le 1 _ (by simp; omega)
  rw [e3]
  simp only [litB, if_true, copB, Nat.zero_add, Nat.sub_zero, e4, List.length_append, List.length_cons, List.length_nil]
  omega
theorem packB_rep (x : UInt8) {n : Nat} (h8 : 8 ≤ n) (hn : n ≤ 4096) : (packB (List.replicate n x)).length ≤ 6 := by
  have h1 := better_le (better (0 :: List.replicate n x) (greedyB (List.replicate n x))) (halvesB (List.replicate n x))
  have h3 : 0 < (greedyB (List.replicate n x)).length := by
    refine Nat.pos_of_ne_zero fun h0 => ?_
    have hb := greedyB_unpack (b := List.replicate n x) (most := n) (by simp; omega) (by simp)
    rw [List.length_eq_zero_iff.1 h0] at hb
    simp [unpackB] at hb
  have h2 := better_le2 (best := 0 :: List.replicate n x) h3
  have := greedyB_rep x h8 hn
  unfold packB
  omega
end Go.Proofs.Ytlmgihnnphmmhaa
