/- A pager: New. -/
import Derived.Test.YtmipngefpedfpaaPtZ
namespace Go.Proofs.Ytmipngefpedfpaa
open Go.RowKit Go.Maps
set_option linter.unusedVariables false
set_option linter.unusedSimpArgs false

set_option maxHeartbeats 400000 in
theorem New_bad (w : World) (n : Int) (hn : n < 1 ∨ 4096 < n) : Calls Try.prog 26 #[.int .i64 n] w fun e w' => e = .returned (.tuple #[.pointer none, .int .i64 1]) ∧ w = w' := by
  rcases hn with h | h
  · go_enter Try.func26, Try.ntmps26
    go_wp2
    go_ret2
    exact ⟨rfl, rfl⟩
  · have h' : ¬ n < 1 := by omega
    go_enter Try.func26, Try.ntmps26
    go_wp2
    go_ret2
    exact ⟨rfl, rfl⟩
/-- A pager that was made just now. -/
structure Pg0 {σ : Type} {K : SnkF σ} (M : Snk K) (P : PSnk K) (w w' : World) (z n : Nat) (O : Nat → Prop) (s : σ) (d : PD) (t : PSt σ) : Prop where
  at_ : PgrAt M w' d t
  inv : PI P d t
  bel : Below w.heap.size w w'
  own : ∀ k, ownP d t.pm k → w.heap.size ≤ k
  z : d.z = z
  n : d.n = n
  pm : t.pm = fun _ => none
  nx : t.nx = 1
  cm : t.cm = 0
  hole : t.hole = none
  O : t.O = O
  s : t.s = s
  used : cntF qUsed t.F d.n = 0
def NwPost {σ : Type} {K : SnkF σ} (M : Snk K) (P : PSnk K) (w : World) (z n : Int) (O : Nat → Prop) (s : σ) (e : Ending) (w' : World) : Prop :=
  (e = .returned (.tuple #[.pointer none, .int .i64 1]) ∧ Below w.heap.size w w' ∧ (z < 16 ∨ 4096 < z ∨ n < 1 ∨ 4096 < n)) ∨
  (∃ d t, e = .returned (.tuple #[.pointer (some ⟨d.Q, 0, none⟩), .int .i64 0]) ∧ (16 ≤ z ∧ z ≤ 4096 ∧ 1 ≤ n ∧ n ≤ 4096) ∧ Pg0 M P w w' z.toNat n.toNat O s d t)
section
variable {σ : Type} {K : SnkF σ} {M : Snk K} {P : PSnk K} {w w' w1 w2 w3 w4 w5 : World} {O : Nat → Prop} {s : σ}
theorem cnt_zero (n : Nat) : cntF qUsed (fun _ => Fr.zero) n = 0 := by
  induction n with
  | zero => rfl
  | succ n ih => rw [cntF_no (q := qUsed) rfl, ih]
theorem visP_none : visP (fun _ => none) none = fun _ => none := by
  funext k
  unfold visP
  split <;> rfl
theorem pgF_none : pgF (fun _ => none) = fun _ => none := by
  funext v
  unfold pgF
  cases intOfV v <;> rfl
theorem pg0_mk (z n : Nat) (hz : 16 ≤ z ∧ z ≤ 4096) (hn : 1 ≤ n ∧ n ≤ 4096) (ha : M.At w O s) (hin : P.In s) {Pb B Mp : Nat} (hp : PoolAt w1 Pb B Mp n (fun _ => Fr.zero) 0 (fun _ => none) 0) (h1 : w.heap.size ≤ Pb) (h2 : w.heap.size ≤ B) (h3 : w.heap.size ≤ Mp) (hb : Below w.heap.size w w1) {T : TypeId}
    (hw : w2 = (w1.alloc (.map #[] 0)).alloc (.cells #[.pointer (some ⟨Pb, 0, none⟩), .int .i64 (z : Nat), .int .i64 (n : Nat), .iface M.T (.pointer M.p), .map (some w1.heap.size), .int .i64 1] T)) :
    ∃ d t, d.Q = w1.heap.size + 1 ∧ Pg0 M P w w2 z n O s d t := by
  subst hw
  have hb1 : Below w1.heap.size w1 (w1.alloc (.map #[] 0)) := (Below.refl _ _).alloc (Nat.le_refl _) _
  have e1 : (w1.alloc (.map #[] 0)).heap.size = w1.heap.size + 1 := by simp
  have hb2 : Below (w1.alloc (.map #[] 0)).heap.size (w1.alloc (.map #[] 0)) ((w1.alloc (.map #[] 0)).alloc (.cells #[.pointer (some ⟨Pb, 0, none⟩), .int .i64 (z : Nat), .int .i64 (n : Nat), .iface M.T (.pointer M.p), .map (some w1.heap.size), .int .i64 1] T)) := (Below.refl _ _).alloc (Nat.le_refl _) _
  obtain ⟨w3, hw3⟩ : ∃ w3, w3 = w1.alloc (.map #[] 0) := ⟨_, rfl⟩
  obtain ⟨w4, hw4⟩ : ∃ w4, w4 = w3.alloc (.cells #[.pointer (some ⟨Pb, 0, none⟩), .int .i64 (z : Nat), .int .i64 (n : Nat), .iface M.T (.pointer M.p), .map (some w1.heap.size), .int .i64 1] T) := ⟨_, rfl⟩
  have hmp := MapIs.made (P := Try.prog) (k := 3) w1
  rw [← hw3] at hb1 hb2 e1 hmp ⊢
  rw [← hw4] at hb2 ⊢
  have hc : ∀ k v, (#[.pointer (some ⟨Pb, 0, none⟩), .int .i64 (z : Nat), .int .i64 (n : Nat), .iface M.T (.pointer M.p), .map (some w1.heap.size), .int .i64 1] : Array Value)[k]? = some v → w4.cell? ⟨w1.heap.size + 1, k, none⟩ = some v := fun k v hv => by
    rw [hw4, ← e1, cell_of_row _ _ _ _ _ _ (heap_alloc_new w3 _)]; exact hv
  have hbw : Below w.heap.size w w4 := (hb.trans (hb1.mono hb.size)).trans (hb2.mono (Nat.le_trans hb.size hb1.size))
  refine ⟨⟨w1.heap.size + 1, Pb, B, Mp, w1.heap.size, n, z⟩, ⟨fun _ => Fr.zero, 0, fun _ => none, 0, fun _ => none, 0, 1, none, O, s⟩, rfl, ⟨⟨hc 0 _ rfl, hc 1 _ rfl, hc 2 _ rfl, hc 3 _ rfl, hc 4 _ rfl, hc 5 _ rfl, fun k => ?_, (hp.up hb1).up hb2, ?_, fun i x hx => (by cases hx), M.off ha (Off.of_below (S := fun _ => False) hbw) (fun _ h => h.elim), fun k hk e => ?_, fun i j x y k hx => (by cases hx), ?_, hz⟩,
    ⟨hin, ⟨⟨fun j _ hu => (by cases hu), fun k j hg => (by cases hg)⟩, fun j _ => ⟨Int.le_refl _, show (0 : Int) ≤ 1048576 by decide⟩⟩, fun j _ => rfl, fun i j hg => (by cases hg), fun i x hx => (by cases hx), fun i x hx => (by cases hx), fun i x B c L hx => (by cases hx), fun i x hx => (by cases hx), fun i x hx => (by cases hx), fun i hh => (by cases hh), Nat.le_refl _⟩, hbw, fun k hk => ?_, rfl, rfl, rfl, rfl, rfl, rfl, rfl, rfl, cnt_zero n⟩⟩
  · unfold World.frozen?
    rw [hw4, ← e1, heap_alloc_new]
    simp
  · show MapIs Try.prog 3 w4 w1.heap.size (pgF (visP (fun _ => none) none)) 0
    rw [visP_none, pgF_none]
    exact hmp.off (S := fun _ => False) (Off.of_below hb2) id
  · have hl := M.lt ha e
    have hwb := hb.size
    rcases hk with e | e | e | e | e | ⟨i, y, hy, _⟩
    · have e' : k = w1.heap.size + 1 := e
      omega
    · have e' : k = Pb := e
      omega
    · have e' : k = B := e
      omega
    · have e' : k = Mp := e
      omega
    · have e' : k = w1.heap.size := e
      omega
    · cases hy
  · have := hp.ltM
    show Mp ≠ w1.heap.size
    omega
  · have hwb := hb.size
    rcases hk with e | e | e | e | e | ⟨i, y, hy, _⟩
    · have e' : k = w1.heap.size + 1 := e
      omega
    · have e' : k = Pb := e
      omega
    · have e' : k = B := e
      omega
    · have e' : k = Mp := e
      omega
    · have e' : k = w1.heap.size := e
      omega
    · cases hy
set_option maxRecDepth 100000 in
set_option maxHeartbeats 4000000 in
theorem pgNew_any (z n : Int) (ha : M.At w O s) (hin : P.In s) :
    Calls Try.prog 9 #[.int .i64 z, .int .i64 n, .iface M.T (.pointer M.p)] w (NwPost M P w z n O s) := by
  by_cases h1 : z < 16
  · have HG : Hid (NwPost M P w z n O s (.returned (.tuple #[.pointer none, .int .i64 1])) w) := Lib.hid (.inl ⟨rfl, Below.refl _ _, .inl h1⟩)
    clear ha hin
    go_enter Try.func9, Try.ntmps9
    go_wp2
    go_ret2
    exact HG.out
  by_cases h2 : 4096 < z
  · have HG : Hid (NwPost M P w z n O s (.returned (.tuple #[.pointer none, .int .i64 1])) w) := Lib.hid (.inl ⟨rfl, Below.refl _ _, .inr (.inl h2)⟩)
    clear ha hin
    go_enter Try.func9, Try.ntmps9
    go_wp2
    go_ret2
    exact HG.out
  by_cases h3 : n < 1 ∨ 4096 < n
  · have HG : Hid (NwPost M P w z n O s (.returned (.tuple #[.pointer none, .int .i64 1])) w) := Lib.hid (.inl ⟨rfl, Below.refl _ _, .inr (.inr h3)⟩)
    have HN := Lib.hid (New_bad w n h3)
    clear ha hin h3
    go_enter Try.func9, Try.ntmps9
    go_wp2_with fail
    refine HN.out.mono ?_
    rintro e w1 ⟨rfl, rfl⟩
    go_wp2
    go_ret2
    exact HG.out
  · obtain ⟨z, rfl⟩ := Int.eq_ofNat_of_zero_le (show 0 ≤ z by omega)
    obtain ⟨n, rfl⟩ := Int.eq_ofNat_of_zero_le (show 0 ≤ n by omega)
    have HN := Lib.hid (New_any w n (by omega) (by omega))
    have HA := Lib.hid ha
    have HI := Lib.hid hin
    have HB := Lib.hid (show (16 ≤ z ∧ z ≤ 4096) ∧ 1 ≤ n ∧ n ≤ 4096 by omega)
    clear ha hin h3
    go_enter Try.func9, Try.ntmps9
    go_wp2_with fail
    refine HN.out.mono ?_
    rintro e w1 ⟨Pb, B, Mp, rfl, hp, g1, g2, g3, hb⟩
    have HG : Hid (∀ W T, W = (w1.alloc (.map #[] 0)).alloc (.cells #[.pointer (some ⟨Pb, 0, none⟩), .int .i64 (z : Nat), .int .i64 (n : Nat), .iface M.T (.pointer M.p), .map (some w1.heap.size), .int .i64 1] T) → NwPost M P w (z : Int) (n : Int) O s (.returned (.tuple #[.pointer (some ⟨w1.heap.size + 1, 0, none⟩), .int .i64 0])) W) := Lib.hid fun W T hW => by
      obtain ⟨d, t, e1, e2⟩ := pg0_mk (P := P) z n HB.out.1 HB.out.2 HA.out HI.out hp g1 g2 g3 hb hW
      exact .inr ⟨d, t, by rw [e1], by have := HB.out; omega, by simpa using e2⟩
    have hmm := @run_makeMap Try.prog
    clear hp g1 g2 g3 hb HN
    go_wp2
    go_ret2
    exact HG.out _ _ rfl
end
end Go.Proofs.Ytmipngefpedfpaa
