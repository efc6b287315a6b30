/- The document's machine: New; a shape that is worth its while. A pager on a shelf; the shapes that the laws take. Spaces on one pager: a new one, a fork; how many pages a space has. -/
import Derived.Test.YtlhfjaagkgengaaGreatMWa
namespace Go.Proofs.YtlhfjaagkgengaaGreat
open Go.RowKit Go.Maps
set_option linter.unusedVariables false
set_option linter.unusedSimpArgs false
def boE : El Bool where
  sl := 173
  el := 4
  z := .bool false
  bytes := 1
  k := 1
  ht := Tryz.underlying173
  hi := by kernel_rfl
  hzs := rfl
  hk := by decide
  hb64 := by decide
  cells x := [.bool x]
  len _ := rfl
  one x u hu := by
    simp at hu
    rcases hu with rfl
    rfl
/-- Addresses of blocks, or none. -/
def prE : El (Option Nat) where
  sl := 94
  el := 158
  z := .pointer none
  bytes := 8
  k := 1
  ht := Tryz.underlying94
  hi := by kernel_rfl
  hzs := rfl
  hk := by decide
  hb64 := by decide
  cells x := [.pointer (x.map fun g => ⟨g, 0, none⟩)]
  len _ := rfl
  one x u hu := by
    simp at hu
    rcases hu with rfl
    cases x <;> rfl
def psE : El (Option Nat) where
  sl := 51
  el := 30
  z := .pointer none
  bytes := 8
  k := 1
  ht := Tryz.underlying51
  hi := by kernel_rfl
  hzs := rfl
  hk := by decide
  hb64 := by decide
  cells x := [.pointer (x.map fun g => ⟨g, 0, none⟩)]
  len _ := rfl
  one x u hu := by
    simp at hu
    rcases hu with rfl
    cases x <;> rfl
theorem run_make_el {E : Type} (F : El E) (h1 : F.k = 1) (hz : F.z.cells = #[F.z]) (n : Nat) (hn : n ≤ 100000) (w : World) :
    (Instr.makeSlice F.sl (.int .i64 (n : Int)) (.int .i64 (n : Int))).run Tryz.prog w = .ok (.slice (some ⟨w.heap.size, 0, none⟩) n n) (w.alloc (.cells (madeCells #[F.z] n) F.el)) := by
  obtain ⟨i0, hi, hz0, hz1, hz2⟩ := info_parts F.hi
  have hb := F.hb64
  have h := run_make (P := Tryz.prog) w F.sl F.el i0 _ F.ht hi hz0 .i64 .i64 n n (by omega) (by omega) (by
    rw [hz2]
    have : F.bytes * n ≤ 512 * 100000 := Nat.mul_le_mul hb hn
    have e : ((F.bytes : Int) * (n : Int)) = ((F.bytes * n : Nat) : Int) := by simp
    rw [e]
    omega) (by omega)
  rw [h, hz, hz1, h1, Nat.mul_one, Int.toNat_natCast]
theorem OwE.made {E : Type} (F : El E) (h1 : F.k = 1) {x : E} (hx : F.cells x = [F.z]) (n : Nat) (hn : n ≤ 100000) (w : World) :
    OwE F w.heap.size (w.alloc (.cells (madeCells #[F.z] n) F.el)) (.slice (some ⟨w.heap.size, 0, none⟩) n n) (List.replicate n x) := by
  have h := World.ownsRow_lit (base := w.heap.size) (e := F.el) (size := 1) w (madeCells #[F.z] n) n (Nat.le_refl _) (by unfold maxLen; omega) (by rw [size_madeCells]; simp)
  unfold OwE
  rw [h1, List.length_replicate]
  have e : (madeCells #[F.z] n).toList = elC F (List.replicate n x) := by
    clear h hn
    apply List.ext_getElem?
    intro i
    by_cases hi : i < n
    · have h0 := elC_at F (List.replicate n x) i x (by rw [List.getElem?_replicate, if_pos hi]) 0 F.z (by rw [hx]; rfl)
      rw [h1, Nat.mul_one, Nat.add_zero] at h0
      rw [h0, Array.getElem?_toList, made_at _ _ _ hi]
      simp [Nat.mod_one]
    · rw [Array.getElem?_toList, Array.getElem?_eq_none (by rw [size_madeCells]; omega), List.getElem?_eq_none (by rw [elC_len, List.length_replicate, h1]; omega)]
  rw [← e]
  exact h
/-! ### New of the document's sets and machines -/
def NpPost (w : World) (n : Int) (e : Ending) (w' : World) : Prop :=
  Below w.heap.size w w' ∧ ((¬ (1 ≤ n ∧ n ≤ 64) ∧ e = .returned (.tuple #[.pointer none, .int .i64 1])) ∨
    (1 ≤ n ∧ n ≤ 64) ∧ ∃ S B, e = .returned (.tuple #[.pointer (some ⟨S, 0, none⟩), .int .i64 0]) ∧ w'.cell? ⟨S, 0, none⟩ = some (.slice (some ⟨B, 0, none⟩) n.toNat n.toNat) ∧
      OwE boE w.heap.size w' (.slice (some ⟨B, 0, none⟩) n.toNat n.toNat) (List.replicate n.toNat false) ∧ w.heap.size ≤ S ∧ w.heap.size ≤ B ∧ S ≠ B)
set_option maxHeartbeats 2000000 in
theorem npNew_any (w : World) (n : Int) : Calls Tryz.prog 96 #[.int .i64 n] w (NpPost w n) := by
  by_cases h1 : 1 ≤ n
  · by_cases h2 : n ≤ 64
    · obtain ⟨j, rfl⟩ : ∃ j : Nat, n = (j : Nat) := ⟨n.toNat, by omega⟩
      have hmk := run_make_el boE rfl rfl j (by omega)
      have g1 : ¬ ((j : Int) < 1) := by omega
      have g2 : ¬ ((64 : Int) < (j : Int)) := by omega
      have HG : Hid (∀ T, NpPost w (j : Nat) (.returned (.tuple #[.pointer (some ⟨w.heap.size + 1, 0, none⟩), .int .i64 0])) ((w.alloc (.cells (madeCells #[.bool false] j) 4)).alloc (.cells #[.slice (some ⟨w.heap.size, 0, none⟩) j j] T))) := Lib.hid fun T => by
        have b1 : Below w.heap.size w (w.alloc (.cells (madeCells #[.bool false] j) 4)) := (Below.refl _ _).alloc (Nat.le_refl _) _
        have ho := OwE.made boE rfl (x := false) rfl j (by omega) w
        have s1 : (w.alloc (.cells (madeCells #[.bool false] j) 4)).heap.size = w.heap.size + 1 := by simp
        change OwE boE w.heap.size (w.alloc (.cells (madeCells #[.bool false] j) 4)) _ _ at ho
        generalize w.alloc (.cells (madeCells #[.bool false] j) 4) = w1 at *
        have b2 : Below w1.heap.size w1 (w1.alloc (.cells #[.slice (some ⟨w.heap.size, 0, none⟩) j j] T)) := (Below.refl _ _).alloc (Nat.le_refl _) _
        refine ⟨b1.trans (b2.mono (by omega)), .inr ⟨by omega, w.heap.size + 1, w.heap.size, rfl, ?_, ?_, by omega, by omega, by omega⟩⟩
        · have hn := heap_alloc_new w1 (.cells #[.slice (some ⟨w.heap.size, 0, none⟩) j j] T)
          rw [s1] at hn
          rw [cell_of_row _ _ _ _ _ _ hn]
          rfl
        · exact ho.up b2
      go_enter Tryz.func96, Tryz.ntmps96
      simp only [boE] at hmk
      go_wp2
      go_ret2
      exact HG.out _
    · have g2 : (64 : Int) < n := by omega
      have HG : Hid (NpPost w n (.returned (.tuple #[.pointer none, .int .i64 1])) w) := Lib.hid ⟨Below.refl _ _, .inl ⟨by omega, rfl⟩⟩
      have g1 : ¬ (n < 1) := by omega
      go_enter Tryz.func96, Tryz.ntmps96
      go_wp2
      go_ret2
      exact HG.out
  · have HG : Hid (NpPost w n (.returned (.tuple #[.pointer none, .int .i64 1])) w) := Lib.hid ⟨Below.refl _ _, .inl ⟨by omega, rfl⟩⟩
    have g1 : n < 1 := by omega
    go_enter Tryz.func96, Tryz.ntmps96
    go_wp2
    go_ret2
    exact HG.out
/-- May it be a shape? -/
def GoodC (cf : Nat → Int) : Prop := (16 ≤ cf 4 ∧ cf 4 ≤ 4096) ∧ (1 ≤ cf 6 ∧ cf 6 ≤ 64) ∧ (1 ≤ cf 7 ∧ cf 7 ≤ 32) ∧ (1 ≤ cf 8 ∧ cf 8 ≤ 65536)
/-- A machine that was made just now. -/
def NmPost (w : World) (cf : Nat → Int) (e : Ending) (w' : World) : Prop :=
  Below w.heap.size w w' ∧ ((¬ GoodC cf ∧ e = .returned (.tuple #[.pointer none, .int .i64 1])) ∨
    GoodC cf ∧ ∃ X S B Q, e = .returned (.tuple #[.pointer (some ⟨X, 0, none⟩), .int .i64 0]) ∧ (∀ i, i < 9 → w'.cell? ⟨X, i, none⟩ = some (.int .i64 (cf i))) ∧
      w'.cell? ⟨X, 9, none⟩ = some (.pointer (some ⟨S, 0, none⟩)) ∧ w'.cell? ⟨X, 10, none⟩ = some (.slice (some ⟨Q, 0, none⟩) (cf 6).toNat (cf 6).toNat) ∧
      w'.cell? ⟨S, 0, none⟩ = some (.slice (some ⟨B, 0, none⟩) (cf 6).toNat (cf 6).toNat) ∧
      OwE boE w.heap.size w' (.slice (some ⟨B, 0, none⟩) (cf 6).toNat (cf 6).toNat) (List.replicate (cf 6).toNat false) ∧
      OwE prE w.heap.size w' (.slice (some ⟨Q, 0, none⟩) (cf 6).toNat (cf 6).toNat) (List.replicate (cf 6).toNat none) ∧
      (w.heap.size ≤ S ∧ w.heap.size ≤ B ∧ w.heap.size ≤ Q ∧ w.heap.size ≤ X) ∧ S ≠ B ∧ (B ≠ Q ∧ S ≠ Q) ∧ (X ≠ B ∧ X ≠ S ∧ X ≠ Q))
theorem NmPost.up {w w1 w2 : World} {cf : Nat → Int} {e : Ending} (h : NmPost w cf e w1) (hb : Below w1.heap.size w1 w2) : NmPost w cf e w2 := by
  have hc : ∀ {a : Nat} {i : Nat} {v : Value}, w1.cell? ⟨a, i, none⟩ = some v → w2.cell? ⟨a, i, none⟩ = some v := fun {a i v} h1 => ((Off.of_below (S := fun _ => False) hb).cell (p := ⟨a, i, none⟩) (lt_of_cell h1) id).trans h1
  refine ⟨h.1.trans (hb.mono h.1.size), h.2.imp id ?_⟩
  rintro ⟨hg, X, S, B, Q, he, h1, h2, h3, h4, h5, h6, h7⟩
  exact ⟨hg, X, S, B, Q, he, fun i hi => hc (h1 i hi), hc h2, hc h3, hc h4, h5.up hb, h6.up hb, h7⟩
theorem cfg_cells {w w1 : World} {x0 x1 x2 x3 x4 x5 x6 x7 x8 : Int} {T : TypeId} (h : Below (w.alloc (.cells #[.int .i64 x0, .int .i64 x1, .int .i64 x2, .int .i64 x3, .int .i64 x4, .int .i64 x5, .int .i64 x6, .int .i64 x7, .int .i64 x8] T)).heap.size (w.alloc (.cells #[.int .i64 x0, .int .i64 x1, .int .i64 x2, .int .i64 x3, .int .i64 x4, .int .i64 x5, .int .i64 x6, .int .i64 x7, .int .i64 x8] T)) w1) :
    w1.cell? ⟨w.heap.size, 0, none⟩ = some (.int .i64 x0) ∧ w1.cell? ⟨w.heap.size, 1, none⟩ = some (.int .i64 x1) ∧ w1.cell? ⟨w.heap.size, 2, none⟩ = some (.int .i64 x2) ∧ w1.cell? ⟨w.heap.size, 3, none⟩ = some (.int .i64 x3) ∧ w1.cell? ⟨w.heap.size, 4, none⟩ = some (.int .i64 x4) ∧ w1.cell? ⟨w.heap.size, 5, none⟩ = some (.int .i64 x5) ∧
      w1.cell? ⟨w.heap.size, 6, none⟩ = some (.int .i64 x6) ∧ w1.cell? ⟨w.heap.size, 7, none⟩ = some (.int .i64 x7) ∧ w1.cell? ⟨w.heap.size, 8, none⟩ = some (.int .i64 x8) := by
  have hn := heap_alloc_new w (.cells #[.int .i64 x0, .int .i64 x1, .int .i64 x2, .int .i64 x3, .int .i64 x4, .int .i64 x5, .int .i64 x6, .int .i64 x7, .int .i64 x8] T)
  have hc : ∀ k v, (#[.int .i64 x0, .int .i64 x1, .int .i64 x2, .int .i64 x3, .int .i64 x4, .int .i64 x5, .int .i64 x6, .int .i64 x7, .int .i64 x8] : Array Value)[k]? = some v → w1.cell? ⟨w.heap.size, k, none⟩ = some v := fun k v hv => by
    refine ((Off.of_below (S := fun _ => False) h).cell (p := ⟨w.heap.size, k, none⟩) (by simp) id).trans ?_
    rw [cell_of_row _ _ _ _ _ _ hn]; exact hv
  exact ⟨hc 0 _ rfl, hc 1 _ rfl, hc 2 _ rfl, hc 3 _ rfl, hc 4 _ rfl, hc 5 _ rfl, hc 6 _ rfl, hc 7 _ rfl, hc 8 _ rfl⟩
theorem nm_mk {cf : Nat → Int} (hg : GoodC cf) {n : Nat} (hn : cf 6 = (n : Nat)) (hnb : n ≤ 64) (w w1 : World) (T : TypeId) (S : Nat) (hp : NpPost w (cf 6) (.returned (.tuple #[.pointer (some ⟨S, 0, none⟩), .int .i64 0])) w1) :
    NmPost w cf (.returned (.tuple #[.pointer (some ⟨w1.heap.size + 1, 0, none⟩), .int .i64 0])) ((w1.alloc (.cells (madeCells #[.pointer none] n) 158)).alloc (.cells #[.int .i64 (cf 0), .int .i64 (cf 1), .int .i64 (cf 2), .int .i64 (cf 3), .int .i64 (cf 4), .int .i64 (cf 5), .int .i64 (cf 6), .int .i64 (cf 7), .int .i64 (cf 8), .pointer (some ⟨S, 0, none⟩), .slice (some ⟨w1.heap.size, 0, none⟩) n n] T)) := by
  obtain ⟨hb, hp⟩ := hp
  rcases hp with ⟨_, he⟩ | ⟨_, S', B, he, c0, ho, s1, s2, s3⟩
  · simp at he
  · obtain rfl : S = S' := by simpa using he
    have b1 : Below w1.heap.size w1 (w1.alloc (.cells (madeCells #[.pointer none] n) 158)) := (Below.refl _ _).alloc (Nat.le_refl _) _
    have hm := OwE.made prE rfl (x := none) rfl n (by omega) w1
    change OwE prE w1.heap.size (w1.alloc (.cells (madeCells #[.pointer none] n) 158)) _ _ at hm
    have z1 : (w1.alloc (.cells (madeCells #[.pointer none] n) 158)).heap.size = w1.heap.size + 1 := by simp
    generalize w1.alloc (.cells (madeCells #[.pointer none] n) 158) = w2 at *
    have hnw := heap_alloc_new w2 (.cells #[.int .i64 (cf 0), .int .i64 (cf 1), .int .i64 (cf 2), .int .i64 (cf 3), .int .i64 (cf 4), .int .i64 (cf 5), .int .i64 (cf 6), .int .i64 (cf 7), .int .i64 (cf 8), .pointer (some ⟨S, 0, none⟩), .slice (some ⟨w1.heap.size, 0, none⟩) n n] T)
    have b2 : Below w2.heap.size w2 (w2.alloc (.cells #[.int .i64 (cf 0), .int .i64 (cf 1), .int .i64 (cf 2), .int .i64 (cf 3), .int .i64 (cf 4), .int .i64 (cf 5), .int .i64 (cf 6), .int .i64 (cf 7), .int .i64 (cf 8), .pointer (some ⟨S, 0, none⟩), .slice (some ⟨w1.heap.size, 0, none⟩) n n] T)) := (Below.refl _ _).alloc (Nat.le_refl _) _
    rw [z1] at hnw
    generalize w2.alloc (.cells #[.int .i64 (cf 0), .int .i64 (cf 1), .int .i64 (cf 2), .int .i64 (cf 3), .int .i64 (cf 4), .int .i64 (cf 5), .int .i64 (cf 6), .int .i64 (cf 7), .int .i64 (cf 8), .pointer (some ⟨S, 0, none⟩), .slice (some ⟨w1.heap.size, 0, none⟩) n n] T) = w3 at *
    have hc : ∀ k v, (#[.int .i64 (cf 0), .int .i64 (cf 1), .int .i64 (cf 2), .int .i64 (cf 3), .int .i64 (cf 4), .int .i64 (cf 5), .int .i64 (cf 6), .int .i64 (cf 7), .int .i64 (cf 8), .pointer (some ⟨S, 0, none⟩), .slice (some ⟨w1.heap.size, 0, none⟩) n n] : Array Value)[k]? = some v → w3.cell? ⟨w1.heap.size + 1, k, none⟩ = some v := fun k v hv => by
      rw [cell_of_row _ _ _ _ _ _ hnw]; exact hv
    have bb : Below w1.heap.size w1 w3 := b1.trans (b2.mono (by omega))
    have lS := lt_of_cell c0
    have lB : B < w1.heap.size := by
      refine (ho.lt (k := B) ?_).2
      have := hg.2.1
      have e : (Value.slice (some ⟨B, 0, none⟩) (cf 6).toNat (cf 6).toNat).ownBlock = some B := by
        first
          | rfl
          | (simp [Value.ownBlock]; omega)
      exact e
    have hsz := hb.size
    rw [hn, Int.toNat_natCast] at ho c0
    refine ⟨hb.trans (bb.mono hsz), .inr ⟨hg, w1.heap.size + 1, S, B, w1.heap.size, rfl, fun i hi => ?_, hc 9 _ rfl, by rw [hn, Int.toNat_natCast]; exact hc 10 _ rfl, ?_, by rw [hn, Int.toNat_natCast]; exact ho.up bb, by rw [hn, Int.toNat_natCast]; exact (hm.up b2).mono hsz, by omega, s3, by omega, by omega⟩⟩
    · rcases (show i = 0 ∨ i = 1 ∨ i = 2 ∨ i = 3 ∨ i = 4 ∨ i = 5 ∨ i = 6 ∨ i = 7 ∨ i = 8 by omega) with rfl | rfl | rfl | rfl | rfl | rfl | rfl | rfl | rfl <;> exact hc _ _ rfl
    · rw [hn, Int.toNat_natCast]; exact ((Off.of_below (S := fun _ => False) bb).cell (p := ⟨S, 0, none⟩) lS id).trans c0
set_option maxRecDepth 100000 in
set_option maxHeartbeats 4000000 in
theorem nmNew_any (w : World) (cf : Nat → Int) : Calls Tryz.prog 56 #[cfgV cf] w (NmPost w cf) := by
  by_cases hg : GoodC cf
  · obtain ⟨n, hn⟩ : ∃ n : Nat, cf 6 = (n : Nat) := ⟨(cf 6).toNat, by have := hg.2.1; omega⟩
    have hnb : n ≤ 64 := by have := hg.2.1; omega
    have hmk := run_make_el prE rfl rfl n (by omega)
    have HG : Hid (∀ w1 T S, NpPost w (cf 6) (.returned (.tuple #[.pointer (some ⟨S, 0, none⟩), .int .i64 0])) w1 → NmPost w cf (.returned (.tuple #[.pointer (some ⟨w1.heap.size + 1, 0, none⟩), .int .i64 0])) ((w1.alloc (.cells (madeCells #[.pointer none] n) 158)).alloc (.cells #[.int .i64 (cf 0), .int .i64 (cf 1), .int .i64 (cf 2), .int .i64 (cf 3), .int .i64 (cf 4), .int .i64 (cf 5), .int .i64 (cf 6), .int .i64 (cf 7), .int .i64 (cf 8), .pointer (some ⟨S, 0, none⟩), .slice (some ⟨w1.heap.size, 0, none⟩) n n] T))) := Lib.hid fun w1 T S hp => nm_mk hg hn hnb w w1 T S hp
    have HN : Hid (∀ V, Below w.heap.size w V → Calls Tryz.prog 96 #[.int .i64 (cf 6)] V fun e w1 => ∃ S, e = .returned (.tuple #[.pointer (some ⟨S, 0, none⟩), .int .i64 0]) ∧ NpPost w (cf 6) e w1 ∧ Below V.heap.size V w1) := Lib.hid fun V hb => (npNew_any V (cf 6)).mono fun e w1 h => by
      obtain ⟨h1, h2⟩ := h
      rcases h2 with ⟨h2, _⟩ | ⟨h2, S, B, rfl, h3, h4, h5, h6, h7⟩
      · exact absurd hg.2.1 h2
      · have := hb.size
        exact ⟨S, rfl, ⟨hb.trans (h1.mono hb.size), .inr ⟨h2, S, B, rfl, h3, h4.mono hb.size, by omega, by omega, h7⟩⟩, h1⟩
    obtain ⟨⟨g1, g2⟩, ⟨g3, g4⟩, ⟨g5, g6⟩, g7, g8⟩ := hg
    have g1' : ¬ (cf 4 < 16) := by omega
    have g2' : ¬ (4096 < cf 4) := by omega
    have g3' : ¬ (cf 6 < 1) := by omega
    have g4' : ¬ (64 < cf 6) := by omega
    have g5' : ¬ (cf 7 < 1) := by omega
    have g6' : ¬ (32 < cf 7) := by omega
    have g7' : ¬ (cf 8 < 1) := by omega
    have g8' : ¬ (65536 < cf 8) := by omega
    rw [← hn] at hmk
    simp only [prE] at hmk
    clear g1 g2 g3 g4 g5 g6 g7 g8 hn
    unfold cfgV
    generalize cf 0 = x0 at *
    generalize cf 1 = x1 at *
    generalize cf 2 = x2 at *
    generalize cf 3 = x3 at *
    generalize cf 4 = x4 at *
    generalize cf 5 = x5 at *
    generalize cf 6 = x6 at *
    generalize cf 7 = x7 at *
    generalize cf 8 = x8 at *
    go_enter Tryz.func56, Tryz.ntmps56
    go_wp2_with (first | (go_at_call 96; (refine (HN.out _ (by first | (with_reducible exact (Below.refl _ _).alloc (Nat.le_refl _) _) | (with_reducible exact Below.refl _ _) | (trace_state; fail))).mono ?_); rintro e w1 ⟨S, rfl, hp, hbv⟩; have HP := Lib.hid (HG.out w1 96 S hp); obtain ⟨c0, c1, c2, c3, c4, c5, c6, c7, c8⟩ := cfg_cells hbv; clear hp hbv))
    go_region_held3 (fun V => V.cell? ⟨w.heap.size, 0, none⟩ = some (.int .i64 x0) ∧ V.cell? ⟨w.heap.size, 1, none⟩ = some (.int .i64 x1) ∧ V.cell? ⟨w.heap.size, 2, none⟩ = some (.int .i64 x2) ∧ V.cell? ⟨w.heap.size, 3, none⟩ = some (.int .i64 x3) ∧ V.cell? ⟨w.heap.size, 4, none⟩ = some (.int .i64 x4) ∧ V.cell? ⟨w.heap.size, 5, none⟩ = some (.int .i64 x5) ∧ V.cell? ⟨w.heap.size, 6, none⟩ = some (.int .i64 x6) ∧ V.cell? ⟨w.heap.size, 7, none⟩ = some (.int .i64 x7) ∧ V.cell? ⟨w.heap.size, 8, none⟩ = some (.int .i64 x8)) (first | exact ⟨c0, c1, c2, c3, c4, c5, c6, c7, c8⟩ | go_keep) (fail)
    all_goals
      go_wp2
      go_ret2
      first
        | exact HP.out
        | exact (HP.out).up (Below.refl _ _).drew
  · have HB : ∀ V, Below w.heap.size w V → NmPost w cf (.returned (.tuple #[.pointer none, .int .i64 1])) V := fun V hb => ⟨hb, .inl ⟨hg, rfl⟩⟩
    have HB := Lib.hid HB
    have hcs : cf 4 < 16 ∨ (¬ cf 4 < 16 ∧ 4096 < cf 4) ∨ (¬ cf 4 < 16 ∧ ¬ 4096 < cf 4 ∧ cf 6 < 1) ∨ (¬ cf 4 < 16 ∧ ¬ 4096 < cf 4 ∧ ¬ cf 6 < 1 ∧ 64 < cf 6) ∨ (¬ cf 4 < 16 ∧ ¬ 4096 < cf 4 ∧ ¬ cf 6 < 1 ∧ ¬ 64 < cf 6 ∧ cf 7 < 1) ∨ (¬ cf 4 < 16 ∧ ¬ 4096 < cf 4 ∧ ¬ cf 6 < 1 ∧ ¬ 64 < cf 6 ∧ ¬ cf 7 < 1 ∧ 32 < cf 7) ∨
        (¬ cf 4 < 16 ∧ ¬ 4096 < cf 4 ∧ ¬ cf 6 < 1 ∧ ¬ 64 < cf 6 ∧ ¬ cf 7 < 1 ∧ ¬ 32 < cf 7 ∧ cf 8 < 1) ∨ (¬ cf 4 < 16 ∧ ¬ 4096 < cf 4 ∧ ¬ cf 6 < 1 ∧ ¬ 64 < cf 6 ∧ ¬ cf 7 < 1 ∧ ¬ 32 < cf 7 ∧ ¬ cf 8 < 1 ∧ 65536 < cf 8) := by
      unfold GoodC at hg
      omega
    clear hg
    unfold cfgV
    generalize cf 0 = x0 at *
    generalize cf 1 = x1 at *
    generalize cf 2 = x2 at *
    generalize cf 3 = x3 at *
    generalize cf 4 = x4 at *
    generalize cf 5 = x5 at *
    generalize cf 6 = x6 at *
    generalize cf 7 = x7 at *
    generalize cf 8 = x8 at *
    rcases hcs with h | ⟨h1, h⟩ | ⟨h1, h2, h⟩ | ⟨h1, h2, h3, h⟩ | ⟨h1, h2, h3, h4, h⟩ | ⟨h1, h2, h3, h4, h5, h⟩ | ⟨h1, h2, h3, h4, h5, h6, h⟩ | ⟨h1, h2, h3, h4, h5, h6, h7, h⟩ <;>
      (go_enter Tryz.func56, Tryz.ntmps56
       go_wp2
       go_ret2
       exact HB.out _ (by first | (with_reducible exact (Below.refl _ _).alloc (Nat.le_refl _) _) | (with_reducible exact Below.refl _ _) | (trace_state; fail)))
end Go.Proofs.YtlhfjaagkgengaaGreat
namespace Go.Proofs.YtlhfjaagkgengaaGreat
open Go.RowKit Go.Maps
set_option linter.unusedVariables false
set_option linter.unusedSimpArgs false
open Classical in
theorem small_any (w : World) (cf : Nat → Int) : Calls Tryz.prog 13 #[cfgV cf] w fun e w' => e = .returned (.bool (decide (GoodC cf ∧ cf 4 ≤ 512))) ∧ Below w.heap.size w w' := by
  have HN : Hid (∀ V, Below w.heap.size w V → Calls Tryz.prog 56 #[cfgV cf] V fun e w1 => Below w.heap.size w w1 ∧ Below V.heap.size V w1 ∧ ((¬ GoodC cf ∧ e = .returned (.tuple #[.pointer none, .int .i64 1])) ∨ (GoodC cf ∧ ∃ X, e = .returned (.tuple #[.pointer (some ⟨X, 0, none⟩), .int .i64 0])))) := Lib.hid fun V hb => (nmNew_any V cf).mono fun e w1 h => by
    refine ⟨hb.trans (h.1.mono hb.size), h.1, h.2.imp id ?_⟩
    rintro ⟨hg, X, _, _, _, he, _⟩
    exact ⟨hg, X, he⟩
  have HR : Hid (∀ V, Below w.heap.size w V → (decide (GoodC cf ∧ cf 4 ≤ 512) = false → (fun e w' => e = Ending.returned (.bool (decide (GoodC cf ∧ cf 4 ≤ 512))) ∧ Below w.heap.size w w') (.returned (.bool false)) V)) := Lib.hid fun V hb h => ⟨by rw [h], hb⟩
  generalize hp : (fun (e : Ending) (w' : World) => e = Ending.returned (.bool (decide (GoodC cf ∧ cf 4 ≤ 512))) ∧ Below w.heap.size w w') = Pq at *
  have HP : Hid (∀ b V, Below w.heap.size w V → b = decide (GoodC cf ∧ cf 4 ≤ 512) → Pq (.returned (.bool b)) V) := Lib.hid fun b V hb h => by rw [← hp]; exact ⟨by rw [h], hb⟩
  clear HR hp
  have HD : Hid (∀ b : Bool, (GoodC cf → b = decide (cf 4 ≤ 512)) → (¬ GoodC cf → b = false) → b = decide (GoodC cf ∧ cf 4 ≤ 512)) := Lib.hid fun b h1 h2 => by
    by_cases hg : GoodC cf
    · rw [h1 hg]; by_cases c : cf 4 ≤ 512 <;> simp [hg, c]
    · rw [h2 hg]; simp [hg]
  unfold cfgV at *
  go_enter Tryz.func13, Tryz.ntmps13
  go_wp2_with (first | (go_at_call 56; (refine (HN.out _ (by first | (with_reducible exact (Below.refl _ _).alloc (Nat.le_refl _) _) | (with_reducible exact Below.refl _ _))).mono ?_); rintro e w1 ⟨hb1, hb2, h⟩; have HB1 := Lib.hid hb1; try (obtain ⟨c0, c1, c2, c3, c4, c5, c6, c7, c8⟩ := cfg_cells hb2); clear hb1 hb2; rcases h with ⟨hg, rfl⟩ | ⟨hg, X, rfl⟩ <;> (have HGC := Lib.hid hg; clear hg)))
  all_goals
    go_wp2
    show Pq (.returned (.bool _)) _
    exact HP.out _ _ HB1.out (HD.out _ (fun hg => by first | exact absurd hg HGC.out | simp) (fun hg => by first | exact absurd HGC.out hg | rfl))
/-! ### a pager on a shelf -/
def PoPost (w : World) (z held : Int) (e : Ending) (w' : World) : Prop :=
  ∃ S d t, e = .returned (.pointer (some ⟨d.Q, 0, none⟩)) ∧ SW (shM S) shP w' d t (fun _ => none) 1000000 [] ∧ (d.z : Int) = z ∧ (d.n : Int) = held ∧ (∀ q, Own d t q → w.heap.size ≤ q) ∧ Below w.heap.size w w' ∧ shP.room t.s < 0 ∧ t.nx = 1
theorem pv_new {w w1 w2 : World} {z n : Nat} {d : PD} {t : PSt ShS} {e : Ending} (hs : ShNew w e w1) (hp : Pg0 (shM w.heap.size) shP w1 w2 z n (· = w.heap.size) sh0 d t) : Pv (shM w.heap.size) shP w2 d t (fun _ => none) 1000000 :=
  ⟨hp.at_, hp.inv, hp.hole, (fun i _ => by rw [hp.pm]), (fun i b u h => by cases h), by rw [hp.s]; exact sh0_rdy (by omega), by rw [hp.nx]; omega, (fun i o h => by cases h)⟩
theorem shNew_in2 {w w1 : World} {e : Ending} (hs : ShNew w e w1) : (shM w.heap.size).At w1 (· = w.heap.size) sh0 ∧ shP.In sh0 := ⟨hs.2.2.2, by show (-1 : Int) < 0; omega⟩
theorem po_new {w w0 w1 w2 : World} {z n : Nat} {d : PD} {t : PSt ShS} {e : Ending} (hb : Below w.heap.size w w0) (hs : ShNew w0 e w1) (hp : Pg0 (shM w0.heap.size) shP w1 w2 z n (· = w0.heap.size) sh0 d t) : PoPost w (z : Nat) (n : Nat) (.returned (.pointer (some ⟨d.Q, 0, none⟩))) w2 := by
  have h1 := hs.2.1
  have h0 := hb.size
  have z1 := h1.size
  refine ⟨w0.heap.size, d, t, rfl, ⟨pv_new hs hp, fun s hs => (by cases hs), List.Pairwise.nil, UsOk.nil, fun s hs => (by cases hs), Nat.zero_le _⟩, by rw [hp.z], by rw [hp.n], fun b hb => ?_, hb.trans ((h1.mono h0).trans (hp.bel.mono (by omega))), by rw [hp.s]; show (-1 : Int) < 0; omega, hp.nx⟩
  rcases hb with e | e
  · have := hp.own b e
    omega
  · rw [hp.O] at e
    have : b = w0.heap.size := e
    omega
set_option maxHeartbeats 2000000 in
theorem pagerOf_any (w : World) (cf : Nat → Int) (held : Int) (h1 : 16 ≤ cf 4 ∧ cf 4 ≤ 4096) (h2 : 1 ≤ held ∧ held ≤ 4096) : Calls Tryz.prog 14 #[cfgV cf, .int .i64 held] w (PoPost w (cf 4) held) := by
  have HPO : Hid (∀ V0 V1 V2 e d t, Below w.heap.size w V0 → ShNew V0 e V1 → Pg0 (shM V0.heap.size) shP V1 V2 (cf 4).toNat held.toNat (· = V0.heap.size) sh0 d t → PoPost w (cf 4) held (.returned (.pointer (some ⟨d.Q, 0, none⟩))) V2) := Lib.hid fun V0 V1 V2 e d t hb hs hp => by
    have := po_new hb hs hp
    rw [show (((cf 4).toNat : Nat) : Int) = cf 4 by omega, show ((held.toNat : Nat) : Int) = held by omega] at this
    exact this
  have hcell : ∀ {V V' : World} {B : Nat}, Below B V V' → V.heap.size ≤ B → ∀ {a i : Nat} {v : Value}, V.cell? ⟨a, i, none⟩ = some v → V'.cell? ⟨a, i, none⟩ = some v := fun {V V' B} hb hB {a i v} h1 => ((Off.of_below (S := fun _ => False) (hb.mono hB)).cell (p := ⟨a, i, none⟩) (lt_of_cell h1) id).trans h1
  have HSH : Hid (∀ V, Below w.heap.size w V → V.cell? ⟨w.heap.size, 4, none⟩ = some (.int .i64 (cf 4)) → Calls Tryz.prog 58 #[] V fun e w1 => ∃ V0, e = .returned (.pointer (some ⟨V0.heap.size, 0, none⟩)) ∧ Below w.heap.size w V0 ∧ ShNew V0 e w1 ∧ w1.cell? ⟨w.heap.size, 4, none⟩ = some (.int .i64 (cf 4))) :=
    Lib.hid fun V hb hc => (newShelf_any V).mono fun e w1 h => ⟨V, h.1, hb, h, hcell h.2.1 (Nat.le_refl _) hc⟩
  have HPN : Hid (∀ V0 V1 e0, Below w.heap.size w V0 → ShNew V0 e0 V1 → V1.cell? ⟨w.heap.size, 4, none⟩ = some (.int .i64 (cf 4)) → Calls Tryz.prog 57 #[.int .i64 (cf 4), .int .i64 held, .iface 77 (.pointer (some ⟨V0.heap.size, 0, none⟩))] V1 fun e w2 =>
      ∃ Q, e = .returned (.tuple #[.pointer (some ⟨Q, 0, none⟩), .int .i64 0]) ∧ PoPost w (cf 4) held (.returned (.pointer (some ⟨Q, 0, none⟩))) w2 ∧ w2.cell? ⟨w.heap.size, 4, none⟩ = some (.int .i64 (cf 4))) :=
    Lib.hid fun V0 V1 e0 hb hs hc => (pgNew_any (M := shM V0.heap.size) (P := shP) (cf 4) held (shNew_in2 hs).1 (shNew_in2 hs).2).mono fun e w2 h => by
      rcases h with ⟨_, _, hbad⟩ | ⟨d, t, rfl, _, hp⟩
      · omega
      · exact ⟨d.Q, rfl, HPO.out _ _ _ _ _ _ hb hs hp, hcell hp.bel (Nat.le_refl _) hc⟩
  clear HPO hcell h1 h2
  have hc0 : (w.alloc (.cells #[.int .i64 (cf 0), .int .i64 (cf 1), .int .i64 (cf 2), .int .i64 (cf 3), .int .i64 (cf 4), .int .i64 (cf 5), .int .i64 (cf 6), .int .i64 (cf 7), .int .i64 (cf 8)] 23)).cell? ⟨w.heap.size, 4, none⟩ = some (.int .i64 (cf 4)) := by
    rw [cell_of_row _ _ _ _ _ _ (heap_alloc_new w _)]; rfl
  have HB0 : Hid (Below w.heap.size w (w.alloc (.cells #[.int .i64 (cf 0), .int .i64 (cf 1), .int .i64 (cf 2), .int .i64 (cf 3), .int .i64 (cf 4), .int .i64 (cf 5), .int .i64 (cf 6), .int .i64 (cf 7), .int .i64 (cf 8)] 23))) := Lib.hid ((Below.refl _ _).alloc (Nat.le_refl _) _)
  have KS := Lib.hid hc0
  clear hc0
  unfold cfgV
  go_enter Tryz.func14, Tryz.ntmps14
  go_wp2_with fail
  generalize w.alloc (.cells #[.int .i64 (cf 0), .int .i64 (cf 1), .int .i64 (cf 2), .int .i64 (cf 3), .int .i64 (cf 4), .int .i64 (cf 5), .int .i64 (cf 6), .int .i64 (cf 7), .int .i64 (cf 8)] 23) = wa at *
  have KSd : Hid (wa.drew.cell? ⟨w.heap.size, 4, none⟩ = some (.int .i64 (cf 4))) := Lib.hid KS.out
  have HBd : Hid (Below w.heap.size w wa.drew) := Lib.hid HB0.out.drew
  go_region_held3 (fun V => V.cell? ⟨w.heap.size, 4, none⟩ = some (.int .i64 (cf 4))) (first | exact KS.out | go_keep)
    (first
      | (go_at_call 58; (with_reducible refine (HSH.out _ (by first | exact HB0.out | exact HBd.out) (by first | exact KS.out | exact KSd.out)).mono ?_); rintro e w1 ⟨V0, rfl, hb, hs, hc⟩; have HB1 := Lib.hid hb; have HS1 := Lib.hid hs; have KS := Lib.hid hc; clear hb hs hc)
      | (go_at_call 57; (with_reducible refine (HPN.out V0 w1 _ HB1.out HS1.out KS.out).mono ?_); rintro e w4 ⟨Q, rfl, hfk, hc⟩; have HP := Lib.hid hfk; have KS := Lib.hid hc; clear hfk hc))
  all_goals
    go_wp2
    first
      | exact HP.out
      | (go_ret; exact HP.out)
end Go.Proofs.YtlhfjaagkgengaaGreat
namespace Go.Proofs.YtlhfjaagkgengaaGreat
open Go.RowKit Go.Maps
set_option linter.unusedVariables false
set_option linter.unusedSimpArgs false
theorem ks_of {k : TypeId} {w : World} {b c : Nat} {m : Pm} (h : MapIs Tryz.prog k w b (spF m) c) : ∃ ks : List Int, ks.Nodup ∧ (∀ i, i ∈ ks ↔ (m i).isSome = true) ∧ ks.length = c := by
  obtain ⟨es, clock, _, hst, hc, _, h1, h2⟩ := h
  have hint : ∀ x ∈ es.toList, ∃ i, x.key = .int .i64 i ∧ (m i).isSome = true := fun x hx => by
    have := h1 x hx
    unfold spF at this
    cases hi : intOfV x.key with
    | none => rw [hi] at this; cases this
    | some i =>
      rw [hi] at this
      simp only [Option.bind_some] at this
      refine ⟨i, intOfV_inv hi, ?_⟩
      cases hm : m i with
      | none => rw [hm] at this; cases this
      | some j => rfl
  refine ⟨es.toList.map fun x => (intOfV x.key).getD 0, ?_, fun i => ?_, by rw [List.length_map]; simpa using hc⟩
  · have hk := hst.2.2
    rw [List.Nodup, List.pairwise_map] at hk ⊢
    refine (List.Pairwise.and_mem.1 hk).imp ?_
    rintro a b ⟨ha, hb, hab⟩ e
    obtain ⟨i, hi, _⟩ := hint a ha
    obtain ⟨j, hj, _⟩ := hint b hb
    rw [hi, hj] at e hab
    have e' : i = j := e
    rw [e'] at hab
    exact hab rfl
  · rw [List.mem_map]
    constructor
    · rintro ⟨x, hx, e⟩
      obtain ⟨j, hj, hs⟩ := hint x hx
      rw [hj] at e
      have e' : j = i := e
      rw [← e']
      exact hs
    · intro hs
      cases hm : m i with
      | none => rw [hm] at hs; cases hs
      | some j =>
        obtain ⟨x, hx, e⟩ := h2 (.int .i64 i) (.int .i64 j) (by rw [spF_at, hm]; rfl)
        exact ⟨x, hx, by rw [e]; rfl⟩
theorem cnt_same {k k' : TypeId} {w w' : World} {b b' c c' : Nat} {m m' : Pm} (h : MapIs Tryz.prog k w b (spF m) c) (h' : MapIs Tryz.prog k' w' b' (spF m') c') (hd : ∀ i, (m i).isSome = true ↔ (m' i).isSome = true) : c = c' := by
  obtain ⟨ks, h1, h2, h3⟩ := ks_of h
  obtain ⟨ks', g1, g2, g3⟩ := ks_of h'
  rw [← h3, ← g3]
  exact ((List.perm_ext_iff_of_nodup h1 g1).2 fun i => by rw [h2, g2]; exact hd i).length_eq
theorem cnt_list {k : TypeId} {w : World} {b c : Nat} {m : Pm} (h : MapIs Tryz.prog k w b (spF m) c) {l : List Int} (hl : l.Nodup) (hd : ∀ i, i ∈ l ↔ (m i).isSome = true) : c = l.length := by
  obtain ⟨ks, h1, h2, h3⟩ := ks_of h
  rw [← h3]
  exact ((List.perm_ext_iff_of_nodup h1 hl).2 fun i => by rw [h2, hd]).length_eq
section
variable {σ : Type} {K : SnkF σ} {M : Snk K} {P : PSnk K} {w w' w1 w2 w3 : World} {d : PD} {t t' t1 t2 : PSt σ} {C C' C1 : Cu} {k k0 k1 k2 : Nat} {l l' l1 l2 : List Spc} {s s' : Spc} {S : Nat → Prop}
/-- A space more. -/
theorem SW.more (h : SW M P w d t C k l) (hx : Nx P w w' d t t') (hs : SS M P w' d t' C' k s'.D s'.A s'.cap s'.L s'.m s'.n) (hu : UsOk C' (s'.m :: l.map (·.m))) (hi : injM s'.m) (hw : ∀ q, s'.ow q → w.heap.size ≤ q) (hl : l.length < 1000) :
    SW M P w' d t' C' k (s' :: l) ∧ SwN P w w' d t t' l (s' :: l) := by
  refine ⟨⟨hs.pv, fun x hx2 => ?_, List.pairwise_cons.2 ⟨fun x hx2 q hq e => ?_, h.dj⟩, hu, fun x hx2 => ?_, by rw [List.length_cons]; omega⟩, ⟨hx.off.mono fun b hb => .inl hb, ?_, hx.rm⟩⟩
  · rcases List.mem_cons.1 hx2 with rfl | hx2
    · exact hs
    · exact (h.ss x hx2).pg hs.pv hx fun i id hm => hu.at (List.mem_cons_of_mem _ (List.mem_map.2 ⟨x, hx2, rfl⟩)) hm
  · have := (h.ss x hx2).sp.lt e
    have := hw q hq
    omega
  · rcases List.mem_cons.1 hx2 with rfl | hx2
    · exact hi
    · exact h.inj x hx2
  · rintro q (hq | ⟨x, hx2, hq⟩)
    · exact (hx.own q hq).imp .inl id
    · rcases List.mem_cons.1 hx2 with rfl | hx2
      · exact .inr (hw q hq)
      · exact .inl (.inr ⟨x, hx2, hq⟩)
theorem SW.add (h : SW M P w d t C k l) {cf : Nat → Int} {pg rg ps : Nat} (hD : (SpD.mk 0 0 d.Q cf pg rg ps).Ok) (hz : pg = d.z) (hl : l.length < 1000) {e : Ending} (hn : NewSp w cf d.Q pg rg ps e w') :
    ∃ X Mm, e = .returned (.pointer (some ⟨X, 0, none⟩)) ∧ SW M P w' d t C k (⟨⟨X, Mm, d.Q, cf, pg, rg, ps⟩, none, 0, [], fun _ => none, 0⟩ :: l) ∧ SwN P w w' d t t l (⟨⟨X, Mm, d.Q, cf, pg, rg, ps⟩, none, 0, [], fun _ => none, 0⟩ :: l) ∧ Below w.heap.size w w' := by
  obtain ⟨X, Mm, he, hs, hb, x1, x2⟩ := hn
  have hpv := h.pv.up hb
  have hnew : ∀ q, spO ⟨X, Mm, d.Q, cf, pg, rg, ps⟩ none 0 q → w.heap.size ≤ q := by
    rintro q (e | e | ⟨e, _⟩)
    · have e' : q = X := e
      omega
    · have e' : q = Mm := e
      omega
    · omega
  have hss : SS M P w' d t C k ⟨X, Mm, d.Q, cf, pg, rg, ps⟩ none 0 [] (fun _ => none) 0 := ⟨hs, hpv, ⟨hD.e4, hD.e7, hD.e8, hD.b4, hD.b7, hD.b8⟩, rfl, hz, fun q hq ho => by have := h.pv.lt ho; have := hnew q hq; omega, fun i id hm => (by cases hm), Nat.zero_le _⟩
  obtain ⟨h1, h2⟩ := h.more (s' := ⟨⟨X, Mm, d.Q, cf, pg, rg, ps⟩, none, 0, [], fun _ => none, 0⟩) (Nx.refl.up hb) hss h.us.new (fun i j id h1 => by cases h1) hnew hl
  exact ⟨X, Mm, he, h1, h2, hb⟩
/-- Fork. -/
def FkW (M : Snk K) (P : PSnk K) (w : World) (d : PD) (t : PSt σ) (C : Cu) (k : Nat) (s : Spc) (l : List Spc) (e : Ending) (w' : World) : Prop :=
  ∃ X Mm A' cap' t', e = .returned (.pointer (some ⟨X, 0, none⟩)) ∧ SW M P w' d t' (kpC C s.m) k (⟨⟨X, Mm, d.Q, s.D.cf, s.D.pg, s.D.rg, s.D.ps⟩, A', cap', s.L, s.m, s.n⟩ :: s :: l) ∧
    SwN P w w' d t t' (s :: l) (⟨⟨X, Mm, d.Q, s.D.cf, s.D.pg, s.D.rg, s.D.ps⟩, A', cap', s.L, s.m, s.n⟩ :: s :: l) ∧ t'.nx = t.nx ∧ (∀ x ∈ s :: l, x.mem (kpC C s.m) = x.mem C)
/-- What the regions of a space are. -/
structure RgOk (s : Spc) : Prop where
  right : rightL s.D.ps s.L = true
  len : s.L.length ≤ s.D.rg
  has : ∀ i id, s.m i = some id → findB s.L i = true
  rng : ∀ i id, s.m i = some id → 0 ≤ i ∧ i < s.D.ps
theorem SW.fork (h : SW M P w d t C k (s :: l)) (hr : RgOk s) (hn : s.n ≤ 100000) (hl : l.length < 900) :
    Calls Tryz.prog 32 #[.pointer (some ⟨s.D.X, 0, none⟩)] w (FkW M P w d t C k s l) := by
  have g := h.ss s List.mem_cons_self
  have hi := h.inj s List.mem_cons_self
  have b8 := g.ok.b8
  refine (fork_b g hn hi (fun i id hm => by have := hr.rng i id hm; unfold i64R; omega) (fun i id b u hm hc => by have := h.use List.mem_cons_self hm hc; omega) hr.right hr.len hr.has).mono ?_
  rintro e w' ⟨X, Mm, A', cap', t', rfl, hs, hx, hnx, hnew⟩
  obtain ⟨h1, h2⟩ := h.more (s' := ⟨⟨X, Mm, d.Q, s.D.cf, s.D.pg, s.D.rg, s.D.ps⟩, A', cap', s.L, s.m, s.n⟩) hx hs (h.us.kp (List.mem_map.2 ⟨s, List.mem_cons_self, rfl⟩)) hi hnew (by rw [List.length_cons]; omega)
  refine ⟨X, Mm, A', cap', t', rfl, h1, h2, hnx, fun x hx2 => memF_same fun i id hm => ?_⟩
  obtain ⟨p, hp⟩ := h1.us.at (m := x.m) (List.mem_cons_of_mem _ (List.mem_map.2 ⟨x, hx2, rfl⟩)) hm
  obtain ⟨u, hu⟩ := kp_bytes hp
  exact ⟨p, u, hp, hu⟩
theorem parts_le {z a n : Nat} (hz : 0 < z) : (partsL z a n).length ≤ n := by
  have key : ∀ (f a n : Nat), n ≤ f → (partsN z f a n).length ≤ n := by
    intro f
    induction f with
    | zero => intro a n h; simp [partsN]
    | succ f ih =>
      intro a n h
      have hm := Nat.mod_lt a hz
      unfold partsN
      split
      · simp
      · have := ih (a + min n (z - a % z)) (n - min n (z - a % z)) (by omega)
        rw [List.length_cons]
        omega
  exact key n a n (Nat.le_refl _)
end
end Go.Proofs.YtlhfjaagkgengaaGreat
