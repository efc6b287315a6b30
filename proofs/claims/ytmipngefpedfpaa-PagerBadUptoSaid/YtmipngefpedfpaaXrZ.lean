/- The world of almanaclaw14: any act; acts that came in; few. -/
import Derived.Test.YtmipngefpedfpaaXmZ
import Derived.Test.YtmipngefpedfpaaXoZ
import Derived.Test.YtmipngefpedfpaaXpZ
import Derived.Test.YtmipngefpedfpaaXqZ
namespace Go.Proofs.Ytmipngefpedfpaa
open Go.RowKit Go.Maps
set_option linter.unusedVariables false
set_option linter.unusedSimpArgs false

section
variable {w0 w w' w1 w2 : World} {Wb S : Nat} {d : PD} {t t' t1 t2 : PSt ShS} {R : Prop} {k k1 : Nat} {vi vb : Value} {xs : List Pe}
/-- Any act: the answer is right, the world is right behind it. -/
theorem step_any (h : WA w0 w Wb S d t True (k + 5000) vi vb xs) {a : Ac} (ha : a.In w0) (hf : xs.length < 999) :
    Calls Try.prog 18 #[.pointer (some ⟨Wb, 0, none⟩), .agg a.cells] w (StPost w0 Wb S d True k xs.length) := by
  have haw : a.In w := ha.up h.vw.bel
  obtain ⟨op, page, off, n, A, nb, cb, b⟩ := a
  by_cases h1 : op = 1
  · exact st_make h haw (.inl h1) hf
  by_cases h6 : op = 6
  · exact st_evict h haw h6
  by_cases h7 : op = 7
  · subst h7
    exact st_bring (h.less (by omega)) hf ha.by_
  by_cases hx : xs = []
  · exact st_make h haw (.inr ⟨hx, h1, h7, h6⟩) hf
  by_cases h2 : op = 2
  · subst h2
    by_cases hin : 0 ≤ off ∧ off ≤ (d.z : Int) ∧ (nb : Int) ≤ (d.z : Int) - off
    · obtain ⟨off, rfl⟩ := Int.eq_ofNat_of_zero_le hin.1
      exact st_write_in (h.less (by omega)) hx ha.by_ (by omega)
    · exact st_write_out (h.less (by omega)) hx ha.by_ ha.o ha.m hin
  by_cases h3 : op = 3
  · subst h3
    exact st_copy (h.less (by omega)) hx hf
  by_cases h4 : op = 4
  · subst h4
    exact st_drop (h.less (by omega)) hx
  by_cases h5 : op = 5
  · subst h5
    exact st_save (h.less (by omega)) hx ha.n ha.o
  by_cases h8 : op = 8
  · subst h8
    exact st_move (h.less (by omega)) hx ha.n ha.o
  exact st_else (h.less (by omega)) haw hx h1 h2 h3 h4 h5 h6 h7 h8
/-- The law's world, begun. -/
theorem wa_new (hv : Vw S w0 w d t (fun _ => none) True k) (hz : 16 ≤ d.z ∧ d.z ≤ 4096) (hcm : t.cm = 0) (T : TypeId) :
    WA w0 (w.alloc (.cells #[.pointer (some ⟨d.Q, 0, none⟩), .pointer (some ⟨S, 0, none⟩), .int .i64 (d.z : Nat), .int .i64 (d.n : Nat), .slice none 0 0, .slice none 0 0] T)) w.heap.size S d t True k (.slice none 0 0) (.slice none 0 0) [] := by
  have hb : Below w.heap.size w (w.alloc (.cells #[.pointer (some ⟨d.Q, 0, none⟩), .pointer (some ⟨S, 0, none⟩), .int .i64 (d.z : Nat), .int .i64 (d.n : Nat), .slice none 0 0, .slice none 0 0] T)) := (Below.refl _ _).alloc (Nat.le_refl _) _
  have hc : ∀ k v, (#[.pointer (some ⟨d.Q, 0, none⟩), .pointer (some ⟨S, 0, none⟩), .int .i64 (d.z : Nat), .int .i64 (d.n : Nat), .slice none 0 0, .slice none 0 0] : Array Value)[k]? = some v → (w.alloc (.cells #[.pointer (some ⟨d.Q, 0, none⟩), .pointer (some ⟨S, 0, none⟩), .int .i64 (d.z : Nat), .int .i64 (d.n : Nat), .slice none 0 0, .slice none 0 0] T)).cell? ⟨w.heap.size, k, none⟩ = some v := fun k v hv => by
    rw [cell_of_row _ _ _ _ _ _ (heap_alloc_new w _)]; exact hv
  refine ⟨hv.up hb, ⟨hc 0 _ rfl, hc 1 _ rfl, hc 2 _ rfl, hc 3 _ rfl, hc 4 _ rfl, hc 5 _ rfl, fun k => ?_, OwI.empty _ _, ?_, (fun x hx => by cases hx), fun b hb => ?_, (fun g e => by cases e), (fun g e => by cases e), (fun g h' e => by cases e), (fun x hx => by cases hx), List.Pairwise.nil, hz, (by simp)⟩, List.Pairwise.nil, hcm⟩
  · unfold World.frozen?
    rw [heap_alloc_new]
    simp
  · exact ⟨rfl, .inl ⟨rfl, rfl⟩⟩
  · rcases hb with rfl | e | e | ⟨x, hx, _⟩
    · exact ⟨fun e => by have := hv.lt e; omega, hv.bel.size⟩
    · cases e
    · cases e
    · cases hx
end
/-- Acts that came in. -/
def Acs (w : World) (A : Option Addr) (n : Nat) (b : Nat → Ac) : Prop := 0 < n → ∃ g o, A = some ⟨g, o, none⟩ ∧ g < w.heap.size ∧ ∀ k, k < n → (∀ j v, (b k).cells[j]? = some v → w.cell? ⟨g, o + k * 5 + j, none⟩ = some v) ∧ SBy w (b k).A (b k).nb (b k).b ∧ (-9223372036854775808 ≤ (b k).op ∧ (b k).op ≤ 9223372036854775807) ∧ (-9223372036854775808 ≤ (b k).page ∧ (b k).page ≤ 9223372036854775807) ∧ (-9223372036854775808 ≤ (b k).off ∧ (b k).off ≤ 9223372036854775807) ∧ (-9223372036854775808 ≤ (b k).n ∧ (b k).n ≤ 9223372036854775807) ∧ (b k).nb ≤ 140737488355328
def sumF (b : Nat → Ac) : Nat → Int
  | 0 => 0
  | k + 1 => wrap64 (sumF b k + ((b k).nb : Int))
def fewB (b : Nat → Ac) (n : Nat) : Bool := decide ((n : Int) ≤ 150) && decide (sumF b n ≤ 16384)
def sumN (b : Nat → Ac) : Nat → Nat
  | 0 => 0
  | k + 1 => sumN b k + (b k).nb
theorem Acs.up {w w' : World} {A : Option Addr} {n : Nat} {b : Nat → Ac} (h : Acs w A n b) (hb : Below w.heap.size w w') : Acs w' A n b := fun hp => by
  obtain ⟨g, o, rfl, hg, hc⟩ := h hp
  exact ⟨g, o, rfl, Nat.lt_of_lt_of_le hg hb.size, fun k hk => ⟨fun j v e => (hb.cell (p := ⟨g, o + k * 5 + j, none⟩) hg).trans ((hc k hk).1 j v e), (hc k hk).2.1.up hb, (hc k hk).2.2⟩⟩
theorem sumF_eq {b : Nat → Ac} {n : Nat} (hb : ∀ k, k < n → (b k).nb ≤ 140737488355328) (hn : n ≤ 150) : sumF b n = (sumN b n : Nat) ∧ sumN b n ≤ n * 140737488355328 := by
  induction n with
  | zero => exact ⟨rfl, Nat.le_refl _⟩
  | succ n ih =>
    obtain ⟨h1, h2⟩ := ih (fun k hk => hb k (by omega)) (by omega)
    have h3 := hb n (by omega)
    have h4 : sumN b (n + 1) = sumN b n + (b n).nb := rfl
    refine ⟨?_, by omega⟩
    show wrap64 (sumF b n + ((b n).nb : Int)) = _
    rw [h1, h4]
    unfold wrap64
    omega
theorem le_sumN (b : Nat → Ac) {i n : Nat} (h : i < n) : (b i).nb ≤ sumN b n := by
  induction n with
  | zero => omega
  | succ n ih =>
    have h4 : sumN b (n + 1) = sumN b n + (b n).nb := rfl
    by_cases e : i = n
    · subst e; omega
    · have := ih (by omega); omega
/-- Few acts: each is one. -/
theorem Acs.in_ {w : World} {A : Option Addr} {n : Nat} {b : Nat → Ac} (h : Acs w A n b) (hf : fewB b n = true) : n ≤ 150 ∧ ∀ k, k < n → (b k).In w := by
  unfold fewB at hf
  rw [Bool.and_eq_true, decide_eq_true_eq, decide_eq_true_eq] at hf
  obtain ⟨h1, h2⟩ := hf
  refine ⟨by omega, fun k hk => ?_⟩
  obtain ⟨g, o, _, _, hc⟩ := h (by omega)
  have e := (sumF_eq (b := b) (n := n) (fun k hk => (hc k hk).2.2.2.2.2.2) (by omega)).1
  have := le_sumN b hk
  obtain ⟨_, c1, c2, c3, c4, c5, c6⟩ := hc k hk
  exact ⟨c1, c3, c4, c5, by omega⟩
set_option maxRecDepth 100000 in
set_option maxHeartbeats 4000000 in
theorem few_any {W : World} {A : Option Addr} {n c : Nat} {b : Nat → Ac} (h : Acs W A n b) (hn : n ≤ 9223372036854775807) :
    Calls Try.prog 17 #[.slice A n c] W fun e w' => e = .returned (.bool (fewB b n)) ∧ w' = W := by
  have HP := Lib.hid h
  clear h
  go_enter Try.func17, Try.ntmps17
  go_wp2
  go_loopw [3, 4] (fun s i wr => wr = W ∧ ∃ (j : Nat), j ≤ n ∧ i = .int .i64 (j : Nat) ∧ s = .int .i64 (sumF b j)) (fun _ i _ => n - (intOf i).toNat)
  case atStart => exact ⟨rfl, 0, by omega, rfl, rfl⟩
  case round =>
    obtain ⟨rfl, j, hj, rfl, rfl⟩ := hrel
    by_cases hjn : j < n
    · obtain ⟨g, o, rfl, hg, hc⟩ := HP.out (by omega)
      have k2 : wr.cell? ⟨g, o + j * 5 + 4, none⟩ = some (.slice (b j).A (b j).nb (b j).cb) := (hc j hjn).1 4 _ rfl
      have hjI : (j : Int) < (n : Int) := by omega
      have HS : Hid (sumF b (j + 1) = wrap64 (sumF b j + ((b j).nb : Int))) := Lib.hid rfl
      clear hc
      go_wp2
      go_roundw
      case rel => exact ⟨trivial, j + 1, by omega, by go_num, by rw [HS.out]⟩
      case measure => simp [intOf]; omega
    · obtain rfl : j = n := by omega
      have hj2 : ¬ (j : Int) < (j : Int) := by omega
      have HF : Hid (fewB b j = (decide ((j : Int) ≤ 150) && decide (sumF b j ≤ 16384))) := Lib.hid rfl
      clear HP
      by_cases h1 : (j : Int) ≤ 150
      · by_cases h2 : sumF b j ≤ 16384
        · have d1 := decide_eq_true h1
          have d2 := decide_eq_true h2
          clear h1 h2
          go_wp2
          go_ret
          exact ⟨by rw [HF.out, d1, d2]; rfl, rfl⟩
        · have d1 := decide_eq_true h1
          have d2 := decide_eq_false h2
          clear h1 h2
          go_wp2
          go_ret
          exact ⟨by rw [HF.out, d1, d2]; rfl, rfl⟩
      · have d1 := decide_eq_false h1
        clear h1
        go_wp2
        go_ret
        exact ⟨by rw [HF.out, d1]; rfl, rfl⟩
end Go.Proofs.Ytmipngefpedfpaa
