/- radix: count, under, only. -/
import Derived.Test.YtgkdggidgaifhaaNb
import Derived.Deep.RegionLaw
namespace Go.Proofs.Ytgkdggidgaifhaa
open Go.RowKit
set_option linter.unusedVariables false
set_option linter.unusedSimpArgs false

theorem loadVar_addr {w : World} {g o : Nat} {v0 v1 : Value} (h0 : w.cell? ⟨g, o, none⟩ = some v0) (h1 : w.cell? ⟨g, o + 1, none⟩ = some v1) : (loadVar 30 ⟨g, o, none⟩).run Try.prog w = .ok (.agg #[v0, v1]) w := by
  refine run_loadVar_mid (P := Try.prog) w g o 30 [v0, v1] _ (fun j v hv => ?_) Try.underlying30 rfl (by kernel_rfl)
  match j, hv with
  | 0, hv => simp at hv; rw [← hv]; exact h0
  | 1, hv => simp at hv; rw [← hv]; exact h1
  | j + 2, hv => simp at hv
theorem results_addr {fn : Func} {p u : Tmp} (h : fn.results = #[.cell p 30, .tmp u]) (tmps : Array Value) (w : World) (g : Nat) (v0 v1 : Value) (hp : tmps.getD p undef = .pointer (some ⟨g, 0, none⟩)) (h0 : w.cell? ⟨g, 0, none⟩ = some v0) (h1 : w.cell? ⟨g, 1, none⟩ = some v1) :
    (results fn tmps).run Try.prog w = .ok (.tuple #[.agg #[v0, v1], tmps.getD u undef]) w := by
  rw [results_cell_tmp h, hp]
  simp only [asAddr, Sem.run_pure, Result.andThen_ok, loadVar_addr h0 h1]
theorem results_addr1 {fn : Func} {p : Tmp} (h : fn.results = #[.cell p 30]) (tmps : Array Value) (w : World) (g : Nat) (v0 v1 : Value) (hp : tmps.getD p undef = .pointer (some ⟨g, 0, none⟩)) (h0 : w.cell? ⟨g, 0, none⟩ = some v0) (h1 : w.cell? ⟨g, 1, none⟩ = some v1) :
    (results fn tmps).run Try.prog w = .ok (.agg #[v0, v1]) w := by
  have hl := loadVar_addr h0 h1
  have hp2 : tmps[p]?.getD undef = .pointer (some ⟨g, 0, none⟩) := by rw [← hp]; simp [Array.getD_eq_getD_getElem?]
  simp [results, h, hp2, asAddr, hl, Result.andThen]
theorem cell_new_drew (w : World) (cs : Array Value) (t : TypeId) (k : Nat) {v : Value} (h : cs[k]? = some v) : (w.alloc (.cells cs t)).drew.cell? ⟨w.heap.size, k, none⟩ = some v := by
  show (w.alloc (.cells cs t)).cell? ⟨w.heap.size, k, none⟩ = some v
  rw [cell_of_row _ _ _ _ _ _ (heap_alloc_new w _)]
  exact h
def hasL (f : Nat → Bool) : List Value := (List.range 16).map fun i => .bool (f i)
theorem hasL_length (f : Nat → Bool) : (hasL f).length = 16 := by simp [hasL]
theorem hasL_get (f : Nat → Bool) {i : Nat} (h : i < 16) : (hasL f)[i]? = some (.bool (f i)) := by simp [hasL, h]
theorem NdAt.hasAt {w : World} {X : Nat} {x : RN} {vv : Nat → Value} {vl : Value} (h : NdAt w X x vv vl) : w.rangeAt X 50 (hasL x.has) := fun j v hv => by
  have hj : j < 16 := by have := (List.getElem?_eq_some_iff.1 hv).1; simpa [hasL_length] using this
  rw [hasL_get _ hj] at hv
  cases hv
  exact h.has hj
def countN (f : Nat → Bool) : Nat → Nat
  | 0 => 0
  | n + 1 => countN f n + if f n then 1 else 0
theorem countN_le (f : Nat → Bool) (n : Nat) : countN f n ≤ n := by
  induction n with
  | zero => simp [countN]
  | succ n ih => simp only [countN]; split <;> omega
theorem agg_info : (Try.prog.info? 93).map (·.size) = some 16 := by kernel_rfl
theorem run_has {w : World} {X : Nat} {f : Nat → Bool} (h : w.rangeAt X 50 (hasL f)) : (Instr.loadAt 93 (.pointer (some ⟨X, 50, none⟩))).run Try.prog w = .ok (.agg (hasL f).toArray) w :=
  run_loadAt_mid (P := Try.prog) w X 50 93 (hasL f) _ h Try.underlying93 rfl (by rw [hasL_length]; exact agg_info)
theorem bool_info : (Try.prog.info? 4).map (fun i => (i.zero, i.size, i.bytes)) = some (some (.bool false), 1, 1) := by kernel_rfl
theorem run_hasIdx (w : World) (f : Nat → Bool) {j : Nat} (h : j < 16) : (Instr.index 93 (.agg (hasL f).toArray) (.int .i64 (j : Nat))).run Try.prog w = .ok (.bool (f j)) w := by
  obtain ⟨i, hi, hz0, hz1, hz2⟩ := info_parts bool_info
  have hs : (hasL f)[j]? = some (.bool (f j)) := hasL_get f h
  simp [Instr.index, run_underlying Try.underlying93, part, isAgg, run_underlying Try.underlying4, sizeOf, typeInfo, hi, hz1, Result.andThen, asIntOf, hs]
  omega
set_option maxRecDepth 100000 in
set_option maxHeartbeats 1000000 in
theorem count_any {w : World} {X : Nat} {f : Nat → Bool} (h : w.rangeAt X 50 (hasL f)) : Calls Try.prog 58 #[.pointer (some ⟨X, 0, none⟩)] w fun e w' => e = .returned (.int .i64 (countN f 16 : Nat)) ∧ w' = w := by
  have hlen : (Try.prog.info? 93).map (·.size) = some (hasL f).length := by rw [hasL_length]; exact agg_info
  have H := Lib.hid h
  have HL := Lib.hid hlen
  clear h hlen
  go_enter Try.func58, Try.ntmps58
  go_wp2_with (refine wpList_load_mid rfl 93 (.tmp 8) rfl X 50 rfl (hasL f) _ H.out Try.underlying93 rfl HL.out ?_)
  go_loop [3, 10] (fun a i => ∃ j : Nat, j ≤ 16 ∧ i = .int .i64 j ∧ a = .int .i64 (countN f j : Nat)) (fun _ i => 16 - (intOf i).toNat)
  case atStart => exact ⟨0, by omega, rfl, rfl⟩
  case round =>
    obtain ⟨j, hj, rfl, rfl⟩ := hrel
    clear H HL
    by_cases hj16 : j < 16
    · have hi := run_hasIdx w f hj16
      have hb := countN_le f j
      cases hf : f j
      · rw [hf] at hi
        go_wp2
        go_round
        case rel => exact ⟨j + 1, by omega, by go_num, by simp [countN, hf]⟩
        case measure => simp [intOf]; omega
      · rw [hf] at hi
        go_wp2
        go_round
        case rel => exact ⟨j + 1, by omega, by go_num, by simp [countN, hf]⟩
        case measure => simp [intOf]; omega
    · obtain rfl : j = 16 := by omega
      go_wp2
      go_ret
      exact ⟨rfl, rfl⟩
def RN.underB (x : RN) (l p : Nat) : Bool := decide (l ≤ x.level ∧ frontN x.some l = p)
theorem frontN_le (k l : Nat) : frontN k l ≤ k := Nat.div_le_self _ _
set_option maxHeartbeats 1000000 in
theorem under_any {w : World} {X : Nat} {x : RN} {vv : Nat → Value} {vl : Value} (h : NdAt w X x vv vl) (ho : x.Ok) {l p : Nat} (hl : l ≤ 7) (hp : p < 9223372036854775808) :
    Calls Try.prog 57 #[.pointer (some ⟨X, 0, none⟩), .int .i64 (l : Nat), .int .i64 (p : Nat)] w fun e w' => e = .returned (.bool (x.underB l p)) ∧ Below w.heap.size w w' := by
  have c0 := h.level
  have hs := some_any h ho
  have hlt := ho.some_lt
  have hlv := ho.lv
  clear h ho
  by_cases hle : l ≤ x.level
  · by_cases hf : frontN x.some l = p
    · have hd : x.underB l p = true := by simp [RN.underB, hle, hf]
      rw [hd]
      have hfi : ((frontN x.some l : Nat) : Int) = (p : Nat) := by rw [hf]
      have hHs := Lib.hid hs
      clear hf hd hs
      generalize x.some = q at *
      go_enter Try.func57, Try.ntmps57
      go_wp2_with (first | (go_at_call 78; refine hHs.out.mono ?_; rintro e w1 ⟨rfl, hb1⟩) | (go_at_call 38; refine (front_any _ (by omega) (by omega)).mono ?_; rintro e w' ⟨rfl, rfl⟩))
      go_ret
      exact ⟨rfl, hb1⟩
    · have hd : x.underB l p = false := by simp [RN.underB, hf]
      rw [hd]
      have hfi : ¬ ((frontN x.some l : Nat) : Int) = (p : Nat) := by omega
      have hHs := Lib.hid hs
      clear hf hd hs
      generalize x.some = q at *
      go_enter Try.func57, Try.ntmps57
      go_wp2_with (first | (go_at_call 78; refine hHs.out.mono ?_; rintro e w1 ⟨rfl, hb1⟩) | (go_at_call 38; refine (front_any _ (by omega) (by omega)).mono ?_; rintro e w' ⟨rfl, rfl⟩))
      go_ret
      exact ⟨by simp [hfi], hb1⟩
  · have hd : x.underB l p = false := by simp [RN.underB, hle]
    rw [hd]
    clear hd hs
    go_enter Try.func57, Try.ntmps57
    go_wp2
    go_ret
    exact ⟨rfl, Below.refl _ _⟩
/-- The first that is there. -/
def firstN (f : Nat → Bool) : Nat → Nat → Nat
  | 0, i => i
  | n + 1, i => if f i then i else firstN f n (i + 1)
theorem firstN_spec (f : Nat → Bool) : ∀ (n i : Nat), (∃ j, i ≤ j ∧ j < i + n ∧ f j = true) → firstN f n i < i + n ∧ f (firstN f n i) = true := by
  intro n
  induction n with
  | zero => rintro i ⟨j, h1, h2, _⟩; omega
  | succ n ih =>
    rintro i ⟨j, h1, h2, h3⟩
    unfold firstN
    split
    · rename_i hi; exact ⟨by omega, hi⟩
    · rename_i hi
      have hne : i ≠ j := fun e => hi (e ▸ h3)
      have := ih (i + 1) ⟨j, by omega, by omega, h3⟩
      exact ⟨by omega, this.2⟩
set_option maxRecDepth 100000 in
set_option maxHeartbeats 1000000 in
theorem index_any {w : World} {b o : Nat} {f : Nat → Bool} (h : ∀ k, k < 16 → w.cell? ⟨b, o + k, none⟩ = some (.bool (f k))) (hx : ∃ j, j < 16 ∧ f j = true) :
    Calls Try.prog 82 #[.slice (some ⟨b, o, none⟩) 16 16, .bool true] w fun e w' => e = .returned (.int .i64 (firstN f 16 0 : Nat)) ∧ w' = w := by
  obtain ⟨j0, hj0, hj1⟩ := hx
  go_enter Try.func82, Try.ntmps82
  go_wp2
  go_loop [8] (fun i => ∃ j : Nat, j ≤ j0 ∧ i = .int .i64 j ∧ firstN f (16 - j) j = firstN f 16 0) (fun i => 16 - (intOf i).toNat)
  case atStart => exact ⟨0, by omega, rfl, rfl⟩
  case round =>
    obtain ⟨j, hj, rfl, hf⟩ := hrel
    have hc := h j (by omega)
    have hn : firstN f (16 - j) j = if f j then j else firstN f (16 - (j + 1)) (j + 1) := by
      rw [show 16 - j = (16 - (j + 1)) + 1 by omega]; rfl
    rw [hn] at hf
    have HF := Lib.hid hf
    have H1 := Lib.hid hj1
    clear hf hn h hj1
    cases hfj : f j
    · rw [hfj] at hc
      have HJ := Lib.hid hfj
      clear hfj
      go_wp2
      go_round
      case rel => exact ⟨j + 1, by have : j ≠ j0 := (fun e => by have := HJ.out; rw [e, H1.out] at this; cases this); omega, by go_num, by have := HF.out; rw [HJ.out] at this; simpa using this⟩
      case measure => simp [intOf]; omega
    · rw [hfj] at hc
      have HJ := Lib.hid hfj
      clear hfj
      go_wp2
      go_ret
      have := HF.out
      rw [HJ.out] at this
      simp at this
      rw [← this]
      exact ⟨rfl, rfl⟩
set_option maxRecDepth 100000 in
set_option maxHeartbeats 1000000 in
theorem only_any {w : World} {X : Nat} {x : RN} {vv : Nat → Value} {vl : Value} (h : NdAt w X x vv vl) (hx : ∃ j, j < 16 ∧ x.has j = true) :
    Calls Try.prog 59 #[.pointer (some ⟨X, 0, none⟩)] w fun e w' => e = .returned (addrV (x.kids (firstN x.has 16 0))) ∧ Below w.heap.size w w' := by
  have hi := firstN_spec x.has 16 0 (by obtain ⟨j, h1, h2⟩ := hx; exact ⟨j, by omega, by omega, h2⟩)
  obtain ⟨i, hii⟩ : ∃ i, i = firstN x.has 16 0 := ⟨_, rfl⟩
  have hi16 : i < 16 := by omega
  have hi17 : (i : Int) < 16 := by omega
  have h2 := h.up (((Below.refl _ _).alloc (Nat.le_refl _) (.cells #[.int .i64 0, .int .i64 0] 30)).drew)
  have hc := fun k hk => h2.has (i := k) hk
  have hk := h2.kid (i := i) hi16
  have hix := index_any (fun k hk => hc k hk) hx
  rw [← hii] at hix ⊢
  obtain ⟨k1, k2⟩ := hk
  have HX := Lib.hid hix
  clear hix hc hii hi hx h2
  have hlt := h.lt
  clear h
  unfold addrV
  go_enter Try.func59, Try.ntmps59
  go_wp2
  go_region_law (first | (go_simp; go_at_call 82; refine HX.out.mono ?_; rintro e w' ⟨rfl, rfl⟩))
  go_wp2
  refine bodyPost_ret (results_addr1 rfl _ _ _ _ _ rfl (cell_new_drew _ _ _ 0 rfl) (cell_new_drew _ _ _ 1 rfl)) rfl ?_
  exact ⟨rfl, ((Below.refl _ _).alloc (Nat.le_refl _) _).drew⟩
end Go.Proofs.Ytgkdggidgaifhaa
