/- A space: flat memory. Load tells it, Store changes it, byte by byte. -/
import Derived.Test.YtlhfjaagkgengaaGreatUsZ
namespace Go.Proofs.YtlhfjaagkgengaaGreat
open Go.RowKit Go.Maps
set_option linter.unusedVariables false
set_option linter.unusedSimpArgs false
/-- The byte at a place of a memory of pages. -/
def flatF (z : Nat) (mem : Nat → Bytes) (a : Nat) : UInt8 := (mem (a / z)).getD (a % z) 0
/-- So many bytes from a place on. -/
def rngF (f : Nat → UInt8) (a n : Nat) : Bytes := (List.range n).map fun i => f (a + i)
theorem rngF_len (f : Nat → UInt8) (a n : Nat) : (rngF f a n).length = n := by simp [rngF]
theorem rngF_at (f : Nat → UInt8) (a n i : Nat) (h : i < n) : (rngF f a n)[i]? = some (f (a + i)) := by
  unfold rngF
  rw [List.getElem?_map, List.getElem?_range h]
  rfl
theorem rngF_add (f : Nat → UInt8) (a n k : Nat) : rngF f a (n + k) = rngF f a n ++ rngF f (a + n) k := by
  apply List.ext_getElem?
  intro i
  by_cases h : i < n
  · rw [List.getElem?_append_left (by rw [rngF_len]; exact h), rngF_at _ _ _ _ h, rngF_at _ _ _ _ (by omega)]
  · rw [List.getElem?_append_right (by rw [rngF_len]; omega), rngF_len]
    by_cases h2 : i < n + k
    · rw [rngF_at _ _ _ _ h2, rngF_at _ _ _ _ (by omega), show a + n + (i - n) = a + i by omega]
    · rw [List.getElem?_eq_none (by rw [rngF_len]; omega), List.getElem?_eq_none (by rw [rngF_len]; omega)]
theorem rngF_congr {f g : Nat → UInt8} {a n : Nat} (h : ∀ i, a ≤ i → i < a + n → f i = g i) : rngF f a n = rngF g a n := by
  unfold rngF
  apply List.map_congr_left
  intro i hi
  rw [List.mem_range] at hi
  exact h _ (by omega) (by omega)
theorem rngF_take {b : Bytes} {a k n : Nat} (h : k + n ≤ b.length) {f : Nat → UInt8} (hf : ∀ i, i < n → f (a + i) = b.getD (k + i) 0) : rngF f a n = (b.drop k).take n := by
  apply List.ext_getElem?
  intro i
  by_cases hi : i < n
  · rw [rngF_at _ _ _ _ hi, hf i hi, List.getElem?_take, if_pos hi, List.getElem?_drop, List.getD_eq_getElem?_getD, List.getElem?_eq_getElem (by omega)]
    rfl
  · rw [List.getElem?_eq_none (by rw [rngF_len]; omega), List.getElem?_eq_none (by rw [List.length_take]; omega)]
theorem flat_at {z : Nat} (hz : 0 < z) (mem : Nat → Bytes) {p o : Nat} (ho : o < z) : flatF z mem (p * z + o) = (mem p).getD o 0 := by
  unfold flatF
  rw [Nat.mul_comm, Nat.mul_add_div hz, Nat.div_eq_of_lt ho, Nat.mul_add_mod, Nat.mod_eq_of_lt ho, Nat.add_zero]
theorem secP_flat {z : Nat} (hz : 0 < z) {mem : Nat → Bytes} {p o n : Nat} (hl : (mem p).length = z) (h : o + n ≤ z) : secP (mem p) o n = rngF (flatF z mem) (p * z + o) n := by
  rw [rngF_take (b := mem p) (k := o) (by omega) (fun i hi => by rw [Nat.add_assoc, flat_at hz mem (by omega)])]
  rfl
theorem loadF_flat {z : Nat} (hz : 0 < z) {mem : Nat → Bytes} (hl : ∀ i, (mem i).length = z) : ∀ (f a n : Nat), n ≤ f → loadF mem (partsN z f a n) = rngF (flatF z mem) a n
  | 0, a, n, h => by
    obtain rfl : n = 0 := by omega
    rfl
  | f + 1, a, n, h => by
    have hm := Nat.mod_lt a hz
    have hdm := Nat.div_add_mod a z
    unfold partsN
    split
    · rename_i h0; subst h0; rfl
    · have ih := loadF_flat hz hl f (a + min n (z - a % z)) (n - min n (z - a % z)) (by omega)
      rw [loadF, List.flatMap_cons]
      rw [loadF] at ih
      rw [ih]
      simp only
      rw [secP_flat hz (hl _) (by omega), show a / z * z + a % z = a by rw [Nat.mul_comm]; exact hdm, ← rngF_add, show min n (z - a % z) + (n - min n (z - a % z)) = n by omega]
/-- Part by part the bytes are laid. -/
def stF : (Nat → Bytes) → List Pt → Bytes → Nat → Bytes
  | mem, [], _ => mem
  | mem, x :: ps, b => stF (fun i => if i = x.p then setB (mem x.p) x.o (b.take x.n) else mem i) ps (b.drop x.n)
theorem getD_setB {L : Bytes} {off : Nat} {b : Bytes} (h : off + b.length ≤ L.length) (k : Nat) (hk : k < L.length) : (setB L off b).getD k 0 = if off ≤ k ∧ k < off + b.length then b.getD (k - off) 0 else L.getD k 0 := by
  have := at8_setB h k hk
  unfold at8 at this
  apply UInt8.toNat_inj.1
  rw [this]
  split <;> rfl
theorem getD_take {b : Bytes} {n i : Nat} (h : i < n) : (b.take n).getD i 0 = b.getD i 0 := by
  rw [List.getD_eq_getElem?_getD, List.getD_eq_getElem?_getD, List.getElem?_take, if_pos h]
theorem getD_drop {b : Bytes} {n i : Nat} : (b.drop n).getD i 0 = b.getD (n + i) 0 := by
  rw [List.getD_eq_getElem?_getD, List.getD_eq_getElem?_getD, List.getElem?_drop]
theorem stF_flat {z : Nat} (hz : 0 < z) : ∀ (f a n : Nat) (b : Bytes) (mem : Nat → Bytes), (∀ i, (mem i).length = z) → b.length = n → n ≤ f →
    (∀ i, (stF mem (partsN z f a n) b i).length = z) ∧ ∀ i, flatF z (stF mem (partsN z f a n) b) i = if a ≤ i ∧ i < a + n then b.getD (i - a) 0 else flatF z mem i
  | 0, a, n, b, mem, hl, hb, h => by
    obtain rfl : n = 0 := by omega
    exact ⟨hl, fun i => by rw [if_neg (by omega)]; rfl⟩
  | f + 1, a, n, b, mem, hl, hb, h => by
    have hm := Nat.mod_lt a hz
    have hdm := Nat.div_add_mod a z
    unfold partsN
    split
    · rename_i h0
      exact ⟨hl, fun i => by rw [if_neg (by omega)]; rfl⟩
    · have hlt : (b.take (min n (z - a % z))).length = min n (z - a % z) := by rw [List.length_take]; omega
      have hl1 : ∀ i, (if i = a / z then setB (mem (a / z)) (a % z) (b.take (min n (z - a % z))) else mem i).length = z := fun i => by
        split
        · rw [setB_len (by rw [hl, hlt]; omega), hl]
        · exact hl i
      obtain ⟨g1, g2⟩ := stF_flat hz f (a + min n (z - a % z)) (n - min n (z - a % z)) (b.drop (min n (z - a % z))) _ hl1 (by rw [List.length_drop, hb]) (by omega)
      refine ⟨g1, fun i => ?_⟩
      rw [stF]
      simp only
      rw [g2 i]
      generalize hq : min n (z - a % z) = q at *
      by_cases c1 : a + q ≤ i ∧ i < a + q + (n - q)
      · rw [if_pos c1, if_pos (by omega), getD_drop, show q + (i - (a + q)) = i - a by omega]
      · rw [if_neg c1]
        unfold flatF
        simp only
        have hi := Nat.div_add_mod i z
        have hi2 := Nat.mod_lt i hz
        by_cases c2 : i / z = a / z
        · rw [c2] at hi
          rw [if_pos c2, getD_setB (by rw [hl, hlt]; omega) _ (by rw [hl]; exact hi2), hlt]
          by_cases c3 : a ≤ i ∧ i < a + q
          · rw [if_pos (by omega), if_pos (by omega), getD_take (by omega), show i % z - a % z = i - a by omega]
          · rw [if_neg (by omega), if_neg (by omega), c2]
        · rw [if_neg c2, if_neg]
          intro hc
          apply c2
          have e1 : a / z * z + z = (a / z + 1) * z := by rw [Nat.add_mul, Nat.one_mul]
          refine Nat.le_antisymm ?_ (Nat.div_le_div_right hc.1)
          have : i < (a / z + 1) * z := by rw [← e1, Nat.mul_comm]; omega
          exact Nat.le_of_lt_succ ((Nat.div_lt_iff_lt_mul hz).2 this)
theorem stF_none : ∀ (ps : List Pt) (mem : Nat → Bytes) (b : Bytes) (i : Nat), (∀ y ∈ ps, y.p ≠ i) → stF mem ps b i = mem i
  | [], _, _, _, _ => rfl
  | x :: ps, mem, b, i, h => by
    rw [stF, stF_none ps _ _ i (fun y hy => h y (List.mem_cons_of_mem _ hy)), if_neg (fun e => h x List.mem_cons_self e.symm)]
theorem stF_congr : ∀ (ps : List Pt) (mem mem' : Nat → Bytes) (b : Bytes) (i : Nat), mem i = mem' i → stF mem ps b i = stF mem' ps b i
  | [], _, _, _, _, h => h
  | x :: ps, mem, mem', b, i, h => by
    rw [stF, stF]
    refine stF_congr ps _ _ _ i ?_
    split
    · rename_i e; rw [← e, h]
    · exact h
theorem skipB_mem {C : Cu} {m : Int → Option Int} {x : Pt} {b : Bytes} {z : Nat} (h : skipB C m x b = true) : secP (memF z C m x.p) x.o x.n = b ∧ (m (x.p : Nat)).isSome = true := by
  unfold skipB at h
  unfold memF
  cases hm : m (x.p : Nat) with
  | none => rw [hm] at h; cases h
  | some id =>
    rw [hm] at h
    cases hc : C id with
    | none => simp only [hc] at h; cases h
    | some p =>
      simp only [hc, Bool.and_eq_true, decide_eq_true_eq] at h
      simp only [hc]
      exact ⟨h.2, rfl⟩
theorem mkF_mem_st (z : Nat) (C : Cu) (m : Int → Option Int) (hl : ∀ i, (memF z C m i).length = z) : ∀ (ps : List Pt) (nx : Nat) (b : Bytes), ps.Pairwise (fun x y => x.p < y.p) → (∀ x ∈ ps, x.o + x.n ≤ z) → b.length = sumN ps → ∀ i,
    (∀ e ∈ mkF z C m nx ps b, e.p = i → e.b = stF (memF z C m) ps b i) ∧ ((∀ e ∈ mkF z C m nx ps b, e.p ≠ i) → stF (memF z C m) ps b i = memF z C m i ∧ ((∃ x ∈ ps, x.p = i) → (m (i : Nat)).isSome = true))
  | [], _, _, _, _, _, i => ⟨fun e h => (by cases h), fun _ => ⟨rfl, by rintro ⟨x, hx, _⟩; cases hx⟩⟩
  | x :: ps, nx, b, hp, hin, hb, i => by
    obtain ⟨h1, h2⟩ := List.pairwise_cons.1 hp
    rw [sumN] at hb
    have hin0 := hin x List.mem_cons_self
    have hlt : (b.take x.n).length = x.n := by rw [List.length_take]; omega
    have ih := fun nx => mkF_mem_st z C m hl ps nx (b.drop x.n) h2 (fun y hy => hin y (List.mem_cons_of_mem _ hy)) (by rw [List.length_drop]; omega) i
    have hne : i = x.p → ∀ y ∈ ps, y.p ≠ i := fun e y hy => by have := h1 y hy; omega
    have hst : stF (memF z C m) (x :: ps) b i = if i = x.p then setB (memF z C m x.p) x.o (b.take x.n) else stF (memF z C m) ps (b.drop x.n) i := by
      rw [stF]
      by_cases e : i = x.p
      · rw [stF_none _ _ _ _ (hne e), if_pos e, if_pos e]
      · rw [if_neg e]
        exact stF_congr _ _ _ _ _ (if_neg e)
    rw [mkF]
    by_cases hs : skipB C m x (b.take x.n) = true
    · rw [if_pos hs]
      obtain ⟨s1, s2⟩ := skipB_mem (z := z) hs
      have hsame : setB (memF z C m x.p) x.o (b.take x.n) = memF z C m x.p := setB_same (by rw [hl, hlt]; exact hin0) (by rw [hlt]; exact s1)
      rw [hst]
      by_cases e : i = x.p
      · rw [if_pos e, hsame]
        refine ⟨fun y hy ye => ?_, fun _ => ⟨by rw [e], fun _ => by rw [e]; exact s2⟩⟩
        obtain ⟨_, s, hs, e1⟩ := mkF_mem z C m ps _ _ y hy
        exact absurd (e1.symm.trans ye) (hne e s hs)
      · rw [if_neg e]
        refine ⟨(ih nx).1, fun hn => ⟨((ih nx).2 hn).1, ?_⟩⟩
        rintro ⟨y, hy, e2⟩
        rcases List.mem_cons.1 hy with rfl | hy
        · exact absurd e2.symm e
        · exact ((ih nx).2 hn).2 ⟨y, hy, e2⟩
    · rw [if_neg hs, hst]
      by_cases e : i = x.p
      · rw [if_pos e]
        refine ⟨fun y hy ye => ?_, fun hn => absurd e.symm (hn _ List.mem_cons_self)⟩
        rcases List.mem_cons.1 hy with rfl | hy
        · rfl
        · obtain ⟨_, s, hs, e1⟩ := mkF_mem z C m ps _ _ y hy
          exact absurd (e1.symm.trans ye) (hne e s hs)
      · rw [if_neg e]
        refine ⟨fun y hy ye => ?_, fun hn => ?_⟩
        · rcases List.mem_cons.1 hy with rfl | hy
          · exact absurd ye.symm e
          · exact (ih (nx + 1)).1 y hy ye
        · have g := (ih (nx + 1)).2 fun y hy => hn y (List.mem_cons_of_mem _ hy)
          refine ⟨g.1, ?_⟩
          rintro ⟨y, hy, e2⟩
          rcases List.mem_cons.1 hy with rfl | hy
          · exact absurd e2.symm e
          · exact g.2 ⟨y, hy, e2⟩
theorem partsN_hit {z : Nat} (hz : 0 < z) : ∀ (f a n : Nat), n ≤ f → ∀ i, (∃ x ∈ partsN z f a n, x.p = i) ↔ ∃ j, a ≤ j ∧ j < a + n ∧ j / z = i
  | 0, a, n, h, i => by
    obtain rfl : n = 0 := by omega
    constructor
    · rintro ⟨x, hx, _⟩; cases hx
    · rintro ⟨j, h1, h2, _⟩; omega
  | f + 1, a, n, h, i => by
    have hm := Nat.mod_lt a hz
    have hdm := Nat.div_add_mod a z
    unfold partsN
    split
    · constructor
      · rintro ⟨x, hx, _⟩; cases hx
      · rintro ⟨j, h1, h2, _⟩; omega
    · have ih := partsN_hit hz f (a + min n (z - a % z)) (n - min n (z - a % z)) (by omega) i
      generalize hq : min n (z - a % z) = q at *
      constructor
      · rintro ⟨x, hx, e⟩
        rcases List.mem_cons.1 hx with rfl | hx
        · exact ⟨a, Nat.le_refl _, by omega, e⟩
        · obtain ⟨j, h1, h2, h3⟩ := ih.1 ⟨x, hx, e⟩
          exact ⟨j, by omega, by omega, h3⟩
      · rintro ⟨j, h1, h2, h3⟩
        by_cases c : a + q ≤ j
        · obtain ⟨x, hx, e⟩ := ih.2 ⟨j, c, by omega, h3⟩
          exact ⟨x, List.mem_cons_of_mem _ hx, e⟩
        · refine ⟨_, List.mem_cons_self, ?_⟩
          simp only
          rw [← h3]
          refine Nat.le_antisymm (Nat.div_le_div_right h1) ?_
          have e1 : a / z * z + z = (a / z + 1) * z := by rw [Nat.add_mul, Nat.one_mul]
          have : j < (a / z + 1) * z := by rw [← e1, Nat.mul_comm]; omega
          exact Nat.le_of_lt_succ ((Nat.div_lt_iff_lt_mul hz).2 this)
end Go.Proofs.YtlhfjaagkgengaaGreat
