/- A sink that keeps what it took, plainly; bytes 0 (picked out of radix's and blobs' texts by pick.py; the rest at its end). -/
import Derived.Test.YtmipngefpedfpaaSc
import Derived.Test.YtmipngefpedfpaaFV
import Derived.Maps.OwnOps
namespace Go.Proofs.Ytmipngefpedfpaa
open Go.RowKit
set_option linter.unusedVariables false
set_option linter.unusedSimpArgs false

abbrev Rdr := Int × Int → Option Bytes
def SubR (a b : Rdr) : Prop := ∀ r L, a r = some L → b r = some L
theorem SubR.refl (a : Rdr) : SubR a a := fun _ _ h => h
theorem SubR.trans {a b c : Rdr} (h : SubR a b) (k : SubR b c) : SubR a c := fun r L e => k r L (h r L e)
def incN (p : Int) : Nat → Int
  | 0 => p
  | n + 1 => inc64 (incN p n)
/-- A sink that keeps what it took. -/
structure PSnk {σ : Type} (K : SnkF σ) where
  In : σ → Prop
  rd : σ → Rdr
  cnt : σ → Nat
  room : σ → Int
  ez : Int
  ez0 : ez ≠ 0
  get : ∀ s a b, In s → rd s a = some b → (K.get s a).2 = (b, 0) ∧ In (K.get s a).1 ∧ rd (K.get s a).1 = rd s ∧ cnt (K.get s a).1 = cnt s ∧ room (K.get s a).1 = room s
  put : ∀ s b, In s → K.Rdy s 1 → b.length ≤ 5000 → room s ≠ 0 → (K.put s b).2.2 = 0 ∧ In (K.put s b).1 ∧ rd (K.put s b).1 (K.put s b).2.1 = some b ∧ (K.put s b).2.1 ≠ (0, 0) ∧ SubR (rd s) (rd (K.put s b).1) ∧ cnt (K.put s b).1 = cnt s + 1 ∧ room (K.put s b).1 = if 0 < room s then room s - 1 else room s
  full : ∀ s b, In s → room s = 0 → (K.put s b).2.2 = ez ∧ (K.put s b).1 = s
/-- What a shelf tells. -/
def shRd (L : List Bytes) : Rdr := fun a => if a.1 < 1 ∨ (L.length : Int) < a.1 then none else if a.2 ≠ 13 + ((L.getD (a.1 - 1).toNat []).length : Int) then none else some (L.getD (a.1 - 1).toNat [])
theorem shRd_sub (L : List Bytes) (b : Bytes) : SubR (shRd L) (shRd (L ++ [b])) := fun a x h => by
  unfold shRd at *
  split at h
  · cases h
  · rename_i h1
    split at h
    · cases h
    · rename_i h2
      have e : (L ++ [b]).getD (a.1 - 1).toNat [] = L.getD (a.1 - 1).toNat [] := by
        rw [List.getD_eq_getElem?_getD, List.getD_eq_getElem?_getD, List.getElem?_append_left (by omega)]
      rw [if_neg (by simp; omega), e, if_neg h2]
      exact h
def shP : PSnk shK where
  In s := s.bad < 0
  rd s := shRd s.L
  cnt s := s.L.length
  room s := s.full
  ez := 7
  ez0 := by decide
  get s a b hs h := by
    unfold shRd at h
    split at h
    · cases h
    · rename_i h1
      split at h
      · cases h
      · rename_i h2
        have e : shK.get s a = ({ s with gets := inc64 s.gets }, b, 0) := by
          simp only [shK]
          rw [if_neg h1, if_neg h2, if_neg (by have : s.bad < 0 := hs; omega)]
          rw [Option.some.inj h]
        rw [e]
        exact ⟨rfl, hs, rfl, rfl, rfl⟩
  put s b hs hr hb h0 := by
    have e : shK.put s b = ({ s with L := s.L ++ [b], full := if 0 < s.full then s.full - 1 else s.full }, ((s.L.length : Int) + 1, 13 + (b.length : Int)), 0) := by
      simp only [shK]
      rw [if_neg h0]
    rw [e]
    refine ⟨rfl, hs, ?_, ?_, shRd_sub s.L b, by simp, rfl⟩
    · unfold shRd
      have e2 : (s.L ++ [b]).getD ((s.L.length : Int) + 1 - 1).toNat [] = b := by
        rw [show ((s.L.length : Int) + 1 - 1).toNat = s.L.length by omega, List.getD_eq_getElem?_getD, List.getElem?_append_right (Nat.le_refl _)]
        simp
      simp only [e2]
      rw [if_neg (by simp; omega), if_neg (by simp)]
    · intro h
      have := congrArg Prod.fst h
      simp at this
      omega
  full s b hs h0 := by
    have e : shK.put s b = (s, (0, 0), 7) := by simp only [shK]; rw [if_pos h0]
    rw [e]
    exact ⟨rfl, rfl⟩
def zeros (n : Nat) : Bytes := List.replicate n 0
theorem run_make_bytes (n : Nat) (hn : n ≤ 2 ^ 24) (w : World) :
    (Instr.makeSlice 22 (.int .i64 (n : Int)) (.int .i64 (n : Int))).run Try.prog w = .ok (.slice (some ⟨w.heap.size, 0, none⟩) n n) (w.alloc (.cells (madeCells #[.int .u8 0] n) 5)) := by
  obtain ⟨i0, hi, hz0, hz1, hz2⟩ := info_parts byte_info
  have h := run_make (P := Try.prog) w 22 5 i0 _ Try.underlying22 hi hz0 .i64 .i64 n n (by omega) (by omega) (by rw [hz2]; omega) (by omega)
  rw [h]
  simp [hz1, Value.cells]
theorem zeros_length (n : Nat) : (zeros n).length = n := by simp [zeros]
theorem FrB.zmade (w : World) (n : Nat) (hn : n ≤ 2 ^ 24) : FrB w (w.alloc (.cells (madeCells #[.int .u8 0] n) 5)) (.slice (some ⟨w.heap.size, 0, none⟩) n n) (zeros n) := by
  refine ⟨?_, (Below.refl _ _).alloc (Nat.le_refl _) _⟩
  have h := World.ownsRow_lit (base := w.heap.size) (e := 5) (size := 1) w (madeCells #[.int .u8 0] n) n (Nat.le_refl _) (by unfold maxLen; omega) (by rw [size_madeCells]; omega)
  unfold OwB
  rw [zeros_length]
  have e : (madeCells #[.int .u8 0] n).toList = (zeros n).map bv := by
    apply List.ext_getElem?
    intro i
    by_cases hi : i < n
    · rw [Array.getElem?_toList, made_at _ _ _ hi]
      simp [zeros, hi, Nat.mod_one, bv]
    · rw [Array.getElem?_toList, Array.getElem?_eq_none (by rw [size_madeCells]; omega), List.getElem?_eq_none (by rw [List.length_map, zeros_length]; omega)]
  rw [← e]
  exact h
/-- What it has not it refuses. -/
structure PSnk.Miss {σ : Type} {K : SnkF σ} (P : PSnk K) : Prop where
  no : ∀ s a, P.In s → P.rd s a = none → (K.get s a).2.2 = 20 ∧ P.In (K.get s a).1 ∧ P.rd (K.get s a).1 = P.rd s ∧ P.cnt (K.get s a).1 = P.cnt s ∧ P.room (K.get s a).1 = P.room s
theorem shP_miss : PSnk.Miss shP := ⟨fun s a hs h => by
  have h2 : (shRd s.L a) = none := h
  unfold shRd at h2
  simp only [shP, shK]
  split at h2
  · rename_i h1
    rw [if_pos h1]
    exact ⟨rfl, hs, rfl, rfl, rfl⟩
  · rename_i h1
    split at h2
    · rename_i h3
      rw [if_neg h1, if_pos h3]
      exact ⟨rfl, hs, rfl, rfl, rfl⟩
    · cases h2⟩
end Go.Proofs.Ytmipngefpedfpaa
