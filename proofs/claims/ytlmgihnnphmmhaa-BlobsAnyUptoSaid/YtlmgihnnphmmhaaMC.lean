/- A disk in memory. disk: bytes, Read. disk: New, Shape. append(f, make([]byte, m)...). -/
import Derived.Test.YtlmgihnnphmmhaaMA
import Derived.Test.YtlmgihnnphmmhaaMB
namespace Go.Proofs.Ytlmgihnnphmmhaa
open Go.RowKit Go.Maps
set_option linter.unusedVariables false
set_option linter.unusedSimpArgs false

/-! ### the plain disk -/
structure DkS where
  S : Nat
  z : Nat
  kept : Nat → Option Bytes
  pend : List (Nat × Bytes)
  off : Bool
def lastR : List (Nat × Bytes) → Nat → Option Nat
  | [], _ => none
  | p :: r, k => if p.1 = k then some r.length else lastR r k
/-- The last pending write of a sector. -/
def lastOf (l : List (Nat × Bytes)) (k : Nat) : Option Nat := lastR l.reverse k
theorem lastOf_nil (k : Nat) : lastOf [] k = none := rfl
theorem lastOf_snoc (l : List (Nat × Bytes)) (p : Nat × Bytes) (k : Nat) : lastOf (l ++ [p]) k = if p.1 = k then some l.length else lastOf l k := by
  unfold lastOf
  rw [List.reverse_append]
  simp [lastR]
theorem lastR_spec : ∀ (l : List (Nat × Bytes)) (k i : Nat), lastR l k = some i → ∃ b, l.reverse[i]? = some (k, b) := by
  intro l
  induction l with
  | nil => intro k i h; cases h
  | cons p r ih =>
    intro k i h
    unfold lastR at h
    rw [List.reverse_cons]
    split at h
    · rename_i he
      cases h
      exact ⟨p.2, by rw [List.getElem?_append_right (by simp)]; simp [← he]⟩
    · obtain ⟨b, hb⟩ := ih k i h
      have hl := (List.getElem?_eq_some_iff.1 hb).1
      exact ⟨b, by rw [List.getElem?_append_left hl]; exact hb⟩
theorem lastOf_spec {l : List (Nat × Bytes)} {k i : Nat} (h : lastOf l k = some i) : ∃ b, l[i]? = some (k, b) := by
  obtain ⟨b, hb⟩ := lastR_spec _ _ _ h
  rw [List.reverse_reverse] at hb
  exact ⟨b, hb⟩
def zeros (n : Nat) : Bytes := List.replicate n 0
def DkS.keptB (d : DkS) (k : Nat) : Bytes := (d.kept k).getD (zeros d.z)
/-- What a sector reads as. -/
def DkS.read (d : DkS) (k : Nat) : Bytes := match lastOf d.pend k with
  | some i => (d.pend.getD i (0, [])).2
  | none => d.keptB k

/-! ### keys -/
def placeV (k : Int) : Value := .agg #[.int .i64 k]
def placeOf : Value → Option Int
  | .agg cs => match cs.toList with
    | [.int .i64 k] => some k
    | _ => none
  | _ => none
theorem placeOf_V (k : Int) : placeOf (placeV k) = some k := rfl
theorem placeOf_inv {v : Value} {k : Int} (h : placeOf v = some k) : v = placeV k := by
  unfold placeOf at h
  split at h
  · rename_i cs
    split at h
    · rename_i k' hc
      cases h
      have : cs = #[.int .i64 k] := by rw [← Array.toList_inj]; exact hc
      rw [this]; rfl
    · cases h
  · cases h
def pF (g : Int → Option Value) (v : Value) : Option Value := (placeOf v).bind g
theorem pF_V (g : Int → Option Value) (k : Int) : pF g (placeV k) = g k := rfl
theorem pF_put (g : Int → Option Value) (k : Int) (x : Value) : putK (pF g) (placeV k) x = pF (fun j => if j = k then some x else g j) := by
  funext v
  unfold putK
  split
  · rename_i h; subst h; simp [pF_V]
  · rename_i h
    unfold pF
    cases hn : placeOf v with
    | none => rfl
    | some j =>
      have : j ≠ k := fun e => h (by rw [placeOf_inv hn, e])
      simp [this]

/-! ### a disk in memory -/
/-- The bytes L (z of them), in a block of Da. -/
def ByD (Da : Nat → Prop) (w : World) (z : Nat) (v : Value) (L : Bytes) : Prop := ∃ g o c, v = .slice (some ⟨g, o, none⟩) z c ∧ z ≤ c ∧ Da g ∧ SBy w (some ⟨g, o, none⟩) z L
theorem ByD.off {Da S : Nat → Prop} {w w' : World} {z : Nat} {v : Value} {L : Bytes} (h : ByD Da w z v L) (ho : Off S w w') (hs : ∀ g, Da g → ¬ S g) : ByD Da w' z v L := by
  obtain ⟨g, o, c, h1, h2, h3, h4⟩ := h
  exact ⟨g, o, c, h1, h2, h3, h4.off ho (fun g' o' e => by cases e; exact hs g h3)⟩
theorem ByD.mono {Da Da' : Nat → Prop} {w : World} {z : Nat} {v : Value} {L : Bytes} (h : ByD Da w z v L) (hd : ∀ g, Da g → Da' g) : ByD Da' w z v L := by
  obtain ⟨g, o, c, h1, h2, h3, h4⟩ := h
  exact ⟨g, o, c, h1, h2, hd g h3, h4⟩
theorem ByD.len {Da : Nat → Prop} {w : World} {z : Nat} {v : Value} {L : Bytes} (h : ByD Da w z v L) : L.length = z := by
  obtain ⟨g, o, c, h1, h2, h3, h4⟩ := h
  exact h4.1
def pcells (P : List (Nat × Bytes × Value)) : List Value := P.flatMap fun p => [.int .i64 (p.1 : Nat), p.2.2]
theorem pcells_length (P : List (Nat × Bytes × Value)) : (pcells P).length = P.length * 2 := by
  induction P with
  | nil => rfl
  | cons p P ih => simp only [pcells, List.flatMap_cons, List.length_append, List.length_cons, List.length_nil] at ih ⊢; omega
theorem pcells_at : ∀ (P : List (Nat × Bytes × Value)) (i : Nat) (p : Nat × Bytes × Value), P[i]? = some p → (pcells P)[i * 2]? = some (.int .i64 (p.1 : Nat)) ∧ (pcells P)[i * 2 + 1]? = some p.2.2 := by
  intro P
  induction P with
  | nil => intro i p h; simp at h
  | cons q P ih =>
    intro i p h
    cases i with
    | zero => simp at h; subst h; simp [pcells]
    | succ i =>
      have := ih i p (by simpa using h)
      simp only [pcells, List.flatMap_cons] at this ⊢
      rw [show (i + 1) * 2 = i * 2 + 2 by omega, show i * 2 + 2 + 1 = i * 2 + 1 + 2 by omega]
      simpa using this
def MutD (D Kb Mb : Nat) (pv : Value) (g : Nat) : Prop := g = D ∨ g = Kb ∨ g = Mb ∨ pv.ownBlock = some g
def lastG (d : DkS) (k : Int) : Option Value := if 0 ≤ k then (lastOf d.pend k.toNat).map fun (i : Nat) => .int .i64 i else none

structure DkIn (B : Nat) (w : World) (D Kb Mb : Nat) (pv : Value) (P : List (Nat × Bytes × Value)) (kv : Nat → Value) (Da : Nat → Prop) (d : DkS) : Prop where
  c0 : w.cell? ⟨D, 0, none⟩ = some (.bool d.off)
  c1 : w.cell? ⟨D, 1, none⟩ = some (.int .i64 0)
  c2 : ∃ v, w.cell? ⟨D, 2, none⟩ = some v
  c3 : w.cell? ⟨D, 3, none⟩ = some (.int .i64 (d.z : Nat))
  c4 : w.cell? ⟨D, 4, none⟩ = some (.slice (some ⟨Kb, 0, none⟩) d.S d.S)
  c5 : w.cell? ⟨D, 5, none⟩ = some pv
  c6 : w.cell? ⟨D, 6, none⟩ = some (.map (some Mb))
  c7 : ∃ i : Int, w.cell? ⟨D, 7, none⟩ = some (.int .i64 i)
  c8 : ∃ i : Int, w.cell? ⟨D, 8, none⟩ = some (.int .i64 i)
  zf : ∀ j, w.frozen? ⟨D, j, none⟩ = false
  row : w.ownsRow B 111 2 pv P.length (pcells P)
  pd : d.pend = P.map fun p => (p.1, p.2.1)
  pb : ∀ p ∈ P, p.1 < d.S ∧ ByD Da w d.z p.2.2 p.2.1
  kc : ∀ k, k < d.S → w.cell? ⟨Kb, k, none⟩ = some (kv k)
  kf : ∀ j, w.frozen? ⟨Kb, j, none⟩ = false
  kn : ∀ k, k < d.S → d.kept k = none → kv k = .slice none 0 0
  kb : ∀ k L, k < d.S → d.kept k = some L → ByD Da w d.z (kv k) L
  mp : ∃ c, MapIs Try.prog 109 w Mb (pF (lastG d)) c
  ne : D ≠ Kb ∧ D ≠ Mb ∧ Kb ≠ Mb ∧ ∀ g, pv.ownBlock = some g → g ≠ D ∧ g ≠ Kb ∧ g ≠ Mb
  da : ∀ g, Da g → ¬ MutD D Kb Mb pv g
  bz : 0 < d.z ∧ d.z ≤ 4096 ∧ 0 < d.S ∧ d.S ≤ 65536
/-- The disk at D: O holds all of its blocks. -/
def DkAt (B : Nat) (w : World) (D : Nat) (d : DkS) (O : Nat → Prop) : Prop :=
  ∃ Kb Mb pv P kv Da, DkIn B w D Kb Mb pv P kv Da d ∧ (∀ g, MutD D Kb Mb pv g ∨ Da g → O g) ∧ (∀ g, O g → B ≤ g ∧ g < w.heap.size)
section
variable {B : Nat} {w w' : World} {D Kb Mb : Nat} {pv : Value} {P : List (Nat × Bytes × Value)} {kv : Nat → Value} {Da : Nat → Prop} {d : DkS} {O S : Nat → Prop}
theorem DkIn.off (h : DkIn B w D Kb Mb pv P kv Da d) (ho : Off S w w') (hs : ∀ g, MutD D Kb Mb pv g ∨ Da g → ¬ S g) : DkIn B w' D Kb Mb pv P kv Da d := by
  have lD := lt_of_cell h.c0
  have nD : ¬ S D := hs D (.inl (.inl rfl))
  have nK : ¬ S Kb := hs Kb (.inl (.inr (.inl rfl)))
  have nM : ¬ S Mb := hs Mb (.inl (.inr (.inr (.inl rfl))))
  have cD : ∀ j, w'.cell? ⟨D, j, none⟩ = w.cell? ⟨D, j, none⟩ := fun j => ho.cell (p := ⟨D, j, none⟩) lD nD
  have lK : Kb < w.heap.size := lt_of_cell (h.kc 0 h.bz.2.2.1)
  refine ⟨(cD 0).trans h.c0, (cD 1).trans h.c1, h.c2.imp fun v hv => (cD 2).trans hv, (cD 3).trans h.c3, (cD 4).trans h.c4, (cD 5).trans h.c5, (cD 6).trans h.c6, h.c7.imp fun i hi => (cD 7).trans hi, h.c8.imp fun i hi => (cD 8).trans hi,
    fun j => (ho.frozen (p := ⟨D, j, none⟩) lD nD).trans (h.zf j), ?_, h.pd, fun p hp => ⟨(h.pb p hp).1, (h.pb p hp).2.off ho fun g hg => hs g (.inr hg)⟩, fun k hk => (ho.cell (p := ⟨Kb, k, none⟩) lK nK).trans (h.kc k hk), fun j => (ho.frozen (p := ⟨Kb, j, none⟩) lK nK).trans (h.kf j), h.kn,
    fun k L hk hL => (h.kb k L hk hL).off ho fun g hg => hs g (.inr hg), h.mp.imp fun c hc => hc.off ho nM, h.ne, h.da, h.bz⟩
  refine ⟨h.row.1, ?_⟩
  rcases h.row.2 with hn | ⟨g, cap, cur, rfl, hb, hgg, rest⟩
  · exact .inl hn
  · refine .inr ⟨g, cap, cur, rfl, hb, ?_, rest⟩
    rw [ho.block g (Array.getElem?_eq_some_iff.1 hgg).1 (hs g (.inl (.inr (.inr (.inr rfl)))))]
    exact hgg
theorem DkAt.off (h : DkAt B w D d O) (ho : Off S w w') (hs : ∀ g, O g → ¬ S g) : DkAt B w' D d O := by
  obtain ⟨Kb, Mb, pv, P, kv, Da, h1, h2, h3⟩ := h
  exact ⟨Kb, Mb, pv, P, kv, Da, h1.off ho fun g hg => hs g (h2 g hg), h2, fun g hg => ⟨(h3 g hg).1, Nat.lt_of_lt_of_le (h3 g hg).2 ho.size⟩⟩
theorem DkAt.up (h : DkAt B w D d O) (hb : Below w.heap.size w w') : DkAt B w' D d O := h.off (S := fun _ => False) (Off.of_below hb) (fun _ _ => id)
theorem DkIn.lens (h : DkIn B w D Kb Mb pv P kv Da d) : D < w.heap.size ∧ Kb < w.heap.size ∧ Mb < w.heap.size ∧ (∀ g, pv.ownBlock = some g → B ≤ g ∧ g < w.heap.size) := by
  obtain ⟨c, hc⟩ := h.mp
  exact ⟨lt_of_cell h.c0, lt_of_cell (h.kc 0 h.bz.2.2.1), hc.lt, World.ownsRow.lt h.row⟩
end

/-! ### small walks -/
set_option maxHeartbeats 1000000 in
theorem dkOff_any {w : World} {D : Nat} {x : Bool} (h : w.cell? ⟨D, 0, none⟩ = some (.bool x)) : Calls Try.prog 51 #[.pointer (some ⟨D, 0, none⟩)] w fun e w' => e = .returned (.bool x) ∧ w' = w := by
  go_enter Try.func51, Try.ntmps51
  go_wp2
  go_ret
  exact ⟨rfl, rfl⟩
set_option maxHeartbeats 1000000 in
theorem dkGoes_any {w : World} {D : Nat} (h : w.cell? ⟨D, 1, none⟩ = some (.int .i64 0)) : Calls Try.prog 80 #[.pointer (some ⟨D, 0, none⟩)] w fun e w' => e = .returned (.bool false) ∧ w' = w := by
  go_enter Try.func80, Try.ntmps80
  go_wp2
  go_ret
  exact ⟨rfl, rfl⟩
set_option maxHeartbeats 1000000 in
theorem dkThere_any {w : World} {D Kb S : Nat} {s : Int} (h : w.cell? ⟨D, 4, none⟩ = some (.slice (some ⟨Kb, 0, none⟩) S S)) :
    Calls Try.prog 57 #[.pointer (some ⟨D, 0, none⟩), .int .i64 s] w fun e w' => e = .returned (.bool (decide (0 ≤ s ∧ s < (S : Int)))) ∧ w' = w := by
  by_cases h0 : 0 ≤ s
  · by_cases h1 : s < (S : Int)
    · have hd : decide (0 ≤ s ∧ s < (S : Int)) = true := by simp [h0, h1]
      rw [hd]
      go_enter Try.func57, Try.ntmps57
      go_wp2
      go_ret
      exact ⟨rfl, rfl⟩
    · have hd : decide (0 ≤ s ∧ s < (S : Int)) = false := by simp; omega
      rw [hd]
      go_enter Try.func57, Try.ntmps57
      go_wp2
      go_ret
      exact ⟨rfl, rfl⟩
  · have hd : decide (0 ≤ s ∧ s < (S : Int)) = false := by simp; omega
    rw [hd]
    go_enter Try.func57, Try.ntmps57
    go_wp2
    go_ret
    exact ⟨rfl, rfl⟩
end Go.Proofs.Ytlmgihnnphmmhaa
namespace Go.Proofs.Ytlmgihnnphmmhaa
open Go.RowKit Go.Maps
set_option linter.unusedVariables false
set_option linter.unusedSimpArgs false

theorem made_at (z : Array Value) (m j : Nat) (hj : j < m) : (madeCells z m)[j]? = some (z[j % z.size]!) := by
  unfold madeCells
  simp [hj]
theorem run_make_bytes (n : Nat) (hn : n ≤ 2 ^ 24) (w : World) :
    (Instr.makeSlice 28 (.int .i64 (n : Int)) (.int .i64 (n : Int))).run Try.prog w = .ok (.slice (some ⟨w.heap.size, 0, none⟩) n n) (w.alloc (.cells (madeCells #[.int .u8 0] n) 5)) := by
  obtain ⟨i0, hi, hz0, hz1, hz2⟩ := info_parts byte_info
  have h := run_make (P := Try.prog) w 28 5 i0 _ Try.underlying28 hi hz0 .i64 .i64 n n (by omega) (by omega) (by rw [hz2]; omega) (by omega)
  rw [h]
  simp [hz1, Value.cells]
theorem zeros_length (n : Nat) : (zeros n).length = n := by simp [zeros]
theorem FrB.zmade (w : World) (n : Nat) (hn : n ≤ 2 ^ 24) : FrB w (w.alloc (.cells (madeCells #[.int .u8 0] n) 5)) (.slice (some ⟨w.heap.size, 0, none⟩) n n) (zeros n) := by
  refine ⟨?_, (Below.refl _ _).alloc (Nat.le_refl _) _⟩
  have h := World.ownsRow_lit (base := w.heap.size) (e := 5) (size := 1) w (madeCells #[.int .u8 0] n) n (Nat.le_refl _) (by unfold maxLen; omega) (by rw [size_madeCells]; omega)
  unfold OwB
  rw [zeros_length]
  have e : (madeCells #[.int .u8 0] n).toList = (zeros n).map bv := by
    apply List.ext_getElem?
    intro i
    by_cases hi : i < n
    · rw [Array.getElem?_toList, made_at _ _ _ hi]
      simp [zeros, hi, Nat.mod_one, bv]
    · rw [Array.getElem?_toList, Array.getElem?_eq_none (by rw [size_madeCells]; omega), List.getElem?_eq_none (by rw [List.length_map, zeros_length]; omega)]
  rw [← e]
  exact h

section
variable {B : Nat} {w : World} {D : Nat} {d : DkS} {O : Nat → Prop}
set_option maxRecDepth 100000 in
set_option maxHeartbeats 1000000 in
theorem dkBytes_any (h : DkAt B w D d O) {s : Nat} (hs : s < d.S) :
    Calls Try.prog 59 #[.pointer (some ⟨D, 0, none⟩), .int .i64 (s : Nat)] w fun e w' => ∃ A' c', e = .returned (.slice A' d.z c') ∧ FrB w w' (.slice A' d.z c') (d.keptB s) := by
  obtain ⟨Kb, Mb, pv, P, kv, Da, hi, _, _⟩ := h
  have heq := fun (w : World) (a : Option Addr) (n c : Nat) => Lib.run_eql_slice_nil (P := Try.prog) w 28 5 a n c 0 0 Try.underlying28
  have hmk := run_make_bytes d.z (by have := hi.bz; omega)
  have c3 := hi.c3
  have c4 := hi.c4
  have ck := hi.kc s hs
  have i1 : (s : Int) < (d.S : Int) := by omega
  cases hk : d.kept s with
  | none =>
    have hv := hi.kn s hs hk
    rw [hv] at ck
    have HZ : Hid (FrB w (w.alloc (.cells (madeCells #[.int .u8 0] d.z) 5)) (.slice (some ⟨w.heap.size, 0, none⟩) d.z d.z) (d.keptB s)) := by
      unfold DkS.keptB
      rw [hk]
      exact FrB.zmade w d.z (by have := hi.bz; omega)
    clear hi hk
    go_enter Try.func59, Try.ntmps59
    go_wp2
    go_ret
    exact ⟨_, _, rfl, HZ.out⟩
  | some L =>
    obtain ⟨g, o, c, hv, hc, hg, hsb⟩ := hi.kb s L hs hk
    rw [hv] at ck
    have HC := Lib.hid (clone_any w (some ⟨g, o, none⟩) d.z c L hsb (by have := hi.bz; omega))
    have HK : Hid (d.keptB s = L) := by unfold DkS.keptB; rw [hk]; exact rfl
    clear hi hk hsb hmk
    go_enter Try.func59, Try.ntmps59
    go_wp2_with fail
    refine HC.out.mono ?_
    rintro _ w1 ⟨A', c', rfl, h1, _⟩
    have H1 := Lib.hid h1
    clear h1 HC
    go_wp2
    go_ret
    rw [HK.out]
    exact ⟨_, _, rfl, H1.out⟩
/-- One more read: nothing of the disk but its count has changed. -/
theorem DkAt.count (h : DkAt B w D d O) (j : Nat) (hj : j = 7 ∨ j = 8) (x : Int) : DkAt B (w.setCell ⟨D, j, none⟩ (.int .i64 x)) D d O := by
  obtain ⟨Kb, Mb, pv, P, kv, Da, hi, h2, h3⟩ := h
  have ho : Off (· = D) w (w.setCell ⟨D, j, none⟩ (.int .i64 x)) := (Off.refl (· = D) w).setCell (p := ⟨D, j, none⟩) rfl _
  have lD := lt_of_cell hi.c0
  have cn : ∀ i, i ≠ j → (w.setCell ⟨D, j, none⟩ (.int .i64 x)).cell? ⟨D, i, none⟩ = w.cell? ⟨D, i, none⟩ := fun i hij => World.cell?_setCell_other _ _ _ _ (fun e => hij (by injection e with e1 e2; exact e2.symm))
  have cs : ∀ i, (∃ y : Int, w.cell? ⟨D, i, none⟩ = some (.int .i64 y)) → ∃ y : Int, (w.setCell ⟨D, j, none⟩ (.int .i64 x)).cell? ⟨D, i, none⟩ = some (.int .i64 y) := fun i ⟨y, hy⟩ => by
    by_cases hij : i = j
    · subst hij; exact ⟨x, World.cell?_setCell_same _ _ _ hy⟩
    · exact ⟨y, (cn i hij).trans hy⟩
  have nd : ∀ g, MutD D Kb Mb pv g ∨ Da g → g ≠ D → ¬ g = D := fun g _ h => h
  obtain ⟨l1, l2, l3, l4⟩ := hi.lens
  refine ⟨Kb, Mb, pv, P, kv, Da, ?_, h2, fun g hg => ⟨(h3 g hg).1, Nat.lt_of_lt_of_le (h3 g hg).2 ho.size⟩⟩
  have hr : (w.setCell ⟨D, j, none⟩ (.int .i64 x)).ownsRow B 111 2 pv P.length (pcells P) := by
    refine ⟨hi.row.1, ?_⟩
    rcases hi.row.2 with hn | ⟨g, cap, cur, rfl, hb, hgg, rest⟩
    · exact .inl hn
    · refine .inr ⟨g, cap, cur, rfl, hb, ?_, rest⟩
      rw [ho.block g (Array.getElem?_eq_some_iff.1 hgg).1 (hi.ne.2.2.2 g rfl).1]
      exact hgg
  have hda : ∀ g, Da g → ¬ g = D := fun g hg e => hi.da g hg (.inl e)
  exact ⟨(cn 0 (by omega)).trans hi.c0, (cn 1 (by omega)).trans hi.c1, hi.c2.imp fun v hv => (cn 2 (by omega)).trans hv, (cn 3 (by omega)).trans hi.c3, (cn 4 (by omega)).trans hi.c4, (cn 5 (by omega)).trans hi.c5, (cn 6 (by omega)).trans hi.c6, cs 7 hi.c7, cs 8 hi.c8,
    fun i => by rw [World.frozen?_setCell]; exact hi.zf i, hr, hi.pd, fun p hp => ⟨(hi.pb p hp).1, (hi.pb p hp).2.off ho hda⟩, fun k hk => (ho.cell (p := ⟨Kb, k, none⟩) l2 (fun e => hi.ne.1 e.symm)).trans (hi.kc k hk), fun i => by rw [World.frozen?_setCell]; exact hi.kf i, hi.kn,
    fun k L hk hL => (hi.kb k L hk hL).off ho hda, hi.mp.imp fun c hc => hc.off ho (fun e => hi.ne.2.1 e.symm), hi.ne, hi.da, hi.bz⟩

theorem zeroInt (w : World) : (zeroValue 3).run Try.prog w = .ok (.int .i64 0) w := by kernel_rfl
/-- What Read answers. -/
def DkS.ans (d : DkS) (s : Int) : Bytes × Nat := if d.off then ([], 8) else if 0 ≤ s ∧ s < (d.S : Int) then (d.read s.toNat, 0) else ([], 1)
def RdPost (B : Nat) (w : World) (D : Nat) (d : DkS) (O : Nat → Prop) (s : Int) (e : Ending) (w' : World) : Prop :=
  ∃ A' n' c', e = .returned (.tuple #[.slice A' n' c', .int .i64 ((d.ans s).2 : Nat)]) ∧ (∃ w1, FrB w1 w' (.slice A' n' c') (d.ans s).1 ∧ w.heap.size ≤ w1.heap.size) ∧ DkAt B w' D d O ∧ Off O w w'
set_option maxRecDepth 100000 in
set_option maxHeartbeats 2000000 in
theorem dkRead_any (h : DkAt B w D d O) (s : Int) : Calls Try.prog 23 #[.pointer (some ⟨D, 0, none⟩), .int .i64 s] w (RdPost B w D d O s) := by
  obtain ⟨w0, hw0⟩ : ∃ w0, w0 = w := ⟨_, rfl⟩
  have H := Lib.hid h
  obtain ⟨Kb, Mb, pv, P, kv, Da, hi, h2, h3⟩ := h
  have HOff := Lib.hid (dkOff_any hi.c0)
  have HPST : Hid (RdPost B w D d O s = RdPost B w0 D d O s) := by rw [hw0]; exact rfl
  rw [HPST.out]
  have H00 : Hid (Off O w0 w) := by rw [hw0]; exact Off.refl _ _
  clear HPST hw0
  by_cases hoff : d.off = true
  · have HA : Hid (d.ans s = ([], 8)) := by unfold DkS.ans; rw [hoff]; exact rfl
    rw [hoff] at HOff
    clear hi h2 h3
    go_enter Try.func23, Try.ntmps23
    go_wp2_with fail
    refine HOff.out.mono ?_
    rintro _ _ ⟨rfl, rfl⟩
    go_wp2
    go_ret2
    unfold RdPost
    rw [HA.out]
    exact ⟨_, _, _, rfl, ⟨_, FrB.empty _, H00.out.size⟩, H.out, H00.out⟩
  have hof : d.off = false := by simpa using hoff
  rw [hof] at HOff
  have HTh := Lib.hid (dkThere_any (s := s) hi.c4)
  by_cases hth : 0 ≤ s ∧ s < (d.S : Int)
  · have ht : decide (0 ≤ s ∧ s < (d.S : Int)) = true := by simp [hth]
    rw [ht] at HTh
    obtain ⟨k, rfl⟩ : ∃ k : Nat, s = (k : Int) := ⟨s.toNat, by omega⟩
    have hk : k < d.S := by omega
    have HA : Hid (d.ans (k : Int) = (d.read k, 0)) := by unfold DkS.ans; rw [if_neg hoff, if_pos hth]; exact rfl
    have c8 := hi.c8
    obtain ⟨x, c8⟩ := c8
    have z8 := hi.zf 8
    have c6 := hi.c6
    have HC := Lib.hid (fun y => H.out.count 8 (.inr rfl) y)
    have HO : Hid (∀ y, Off O w0 (w.setCell ⟨D, 8, none⟩ (.int .i64 y))) := fun y => H00.out.setCell (p := ⟨D, 8, none⟩) (h2 D (.inl (.inl rfl))) _
    clear hi h2 h3 hth ht hoff hof
    go_enter Try.func23, Try.ntmps23
    go_wp2_with fail
    refine HOff.out.mono ?_
    rintro _ _ ⟨rfl, rfl⟩
    clear HOff
    go_wp2_with fail
    refine HTh.out.mono ?_
    rintro _ _ ⟨rfl, rfl⟩
    clear HTh
    go_upto_region 6 with (fail)
    refine wp_forget (fun W => DkAt B W D d O ∧ Off O w0 W) ⟨HC.out _, HO.out _⟩ ?_
    clear HC HO c8 z8 c6 H
    rintro W ⟨hW, hoW⟩
    have HW := Lib.hid hW
    have HOW := Lib.hid hoW
    clear hoW
    obtain ⟨Kb, Mb, pv, P, kv, Da, hi, h2, h3⟩ := hW
    obtain ⟨c, hmp⟩ := hi.mp
    obtain ⟨kl, hkl⟩ := place_key (n := k) (by have := hi.bz; omega)
    have hlk := hmp.look placeKeyed Try.underlying72 (zeroInt W) hkl true
    rw [show (Value.agg #[.int .i64 (k : Nat)]) = placeV (k : Int) from rfl, pF_V] at hlk
    have hlg : lastG d (k : Int) = (lastOf d.pend k).map fun (i : Nat) => .int .i64 i := by simp [lastG]
    rw [hlg] at hlk
    have c5 := hi.c5
    have c6 := hi.c6
    cases hla : lastOf d.pend k with
    | none =>
      rw [hla] at hlk
      simp only [Option.map_none, Option.getD_none, Option.isSome_none, if_true] at hlk
      have HRD : Hid (d.read k = d.keptB k) := by unfold DkS.read; rw [hla]; exact rfl
      have HBY := Lib.hid (dkBytes_any HW.out hk)
      unfold placeV at hlk
      clear hi h2 h3 hmp hlg hla
      go_wp2_with fail
      clear hlk
      refine HBY.out.mono ?_
      rintro _ W1 ⟨A', c', rfl, h1⟩
      have H1 := Lib.hid h1
      have H2 := Lib.hid (HW.out.up h1.bel)
      have H3 : Hid (Off O w0 W1) := HOW.out.step h1.bel
      clear h1
      go_wp2
      go_ret2
      unfold RdPost
      rw [HA.out, HRD.out]
      exact ⟨_, _, _, rfl, ⟨_, H1.out, HOW.out.size⟩, H2.out, H3.out⟩
    | some i =>
      rw [hla] at hlk
      simp only [Option.map_some, Option.getD_some, Option.isSome_some, if_true] at hlk
      obtain ⟨b, hb⟩ := lastOf_spec hla
      rw [hi.pd, List.getElem?_map] at hb
      obtain ⟨p, hp, hpe⟩ : ∃ p, P[i]? = some p ∧ (p.1, p.2.1) = (k, b) := by
        cases hP : P[i]? with
        | none => rw [hP] at hb; cases hb
        | some p => rw [hP] at hb; exact ⟨p, rfl, by simpa using hb⟩
      have HRD : Hid (d.read k = p.2.1) := by
        unfold DkS.read
        rw [hla]
        simp only
        rw [hi.pd, List.getD_eq_getElem?_getD, List.getElem?_map, hp]
        exact rfl
      have hil := (List.getElem?_eq_some_iff.1 hp).1
      obtain ⟨hps, g, o, cc, hpv, hcc, hg, hsb⟩ := hi.pb p (List.mem_of_getElem? hp)
      obtain ⟨G, cap, hpv2, hcap, _⟩ := World.ownsRow.form hi.row (by omega)
      have hcell := World.ownsRow.cells hi.row (g := G) (by rw [hpv2]; rfl) (i * 2 + 1) p.2.2 (pcells_at P i p hp).2
      rw [show (⟨G, 0, none⟩ : Addr).add (i * 2 + 1) = ⟨G, i * 2 + 1, none⟩ by simp [Addr.add], hpv] at hcell
      have i1 : (i : Int) < (P.length : Int) := by omega
      have HCL := Lib.hid (clone_any W (some ⟨g, o, none⟩) d.z cc p.2.1 hsb (by have := hi.bz; omega))
      rw [hpv2] at c5
      unfold placeV at hlk
      have c5' := c5
      clear hi h2 h3 hmp hlg hla hb hpe hsb hp hpv hpv2 c5
      go_wp2_with fail
      clear hlk
      refine HCL.out.mono ?_
      rintro _ W1 ⟨A', c', rfl, h1, _⟩
      have H1 := Lib.hid h1
      have H2 := Lib.hid (HW.out.up h1.bel)
      have H3 : Hid (Off O w0 W1) := HOW.out.step h1.bel
      clear h1 HCL
      go_wp2
      go_ret2
      unfold RdPost
      rw [HA.out, HRD.out]
      exact ⟨_, _, _, rfl, ⟨_, H1.out, HOW.out.size⟩, H2.out, H3.out⟩
  · have ht : decide (0 ≤ s ∧ s < (d.S : Int)) = false := by simp; omega
    rw [ht] at HTh
    have HA : Hid (d.ans s = ([], 1)) := by unfold DkS.ans; rw [if_neg hoff, if_neg hth]; exact rfl
    clear hi h2 h3
    go_enter Try.func23, Try.ntmps23
    go_wp2_with fail
    refine HOff.out.mono ?_
    rintro _ _ ⟨rfl, rfl⟩
    clear HOff
    go_wp2_with fail
    refine HTh.out.mono ?_
    rintro _ _ ⟨rfl, rfl⟩
    clear HTh
    go_wp2
    go_ret2
    unfold RdPost
    rw [HA.out]
    exact ⟨_, _, _, rfl, ⟨_, FrB.empty _, H00.out.size⟩, H.out, H00.out⟩
end
end Go.Proofs.Ytlmgihnnphmmhaa
namespace Go.Proofs.Ytlmgihnnphmmhaa
open Go.RowKit Go.Maps
set_option linter.unusedVariables false
set_option linter.unusedSimpArgs false

theorem slice_info : (Try.prog.info? 28).map (fun i => (i.zero, i.size, i.bytes)) = some (some (.slice none 0 0), 1, 24) := by kernel_rfl
theorem run_make_rows (n : Nat) (hn : n ≤ 2 ^ 20) (w : World) :
    (Instr.makeSlice 36 (.int .i64 (n : Int)) (.int .i64 (n : Int))).run Try.prog w = .ok (.slice (some ⟨w.heap.size, 0, none⟩) n n) (w.alloc (.cells (madeCells #[.slice none 0 0] n) 28)) := by
  obtain ⟨i0, hi, hz0, hz1, hz2⟩ := info_parts slice_info
  have h := run_make (P := Try.prog) w 36 28 i0 _ Try.underlying36 hi hz0 .i64 .i64 n n (by omega) (by omega) (by rw [hz2]; omega) (by omega)
  rw [h]
  simp [hz1, Value.cells]
def dk0 (S z : Nat) : DkS := ⟨S, z, fun _ => none, [], false⟩
theorem lastG_dk0 (S z : Nat) : lastG (dk0 S z) = fun _ => none := by
  funext j
  unfold lastG
  split
  · exact rfl
  · rfl
theorem pF_none : pF (fun _ => none) = fun _ => none := by
  funext v
  unfold pF
  cases placeOf v <;> rfl
set_option maxHeartbeats 1000000 in
theorem dkRight_any (w : World) {S z : Nat} (h : 1 ≤ S ∧ S ≤ 65536 ∧ 64 ≤ z ∧ z ≤ 4096) : Calls Try.prog 63 #[.int .i64 (S : Nat), .int .i64 (z : Nat)] w fun e w' => e = .returned (.bool true) ∧ w' = w := by
  have h1 : (S : Int) ≥ 1 := by omega
  have h2 : (S : Int) ≤ 65536 := by omega
  have h3 : (z : Int) ≥ 64 := by omega
  have h4 : (z : Int) ≤ 4096 := by omega
  go_enter Try.func63, Try.ntmps63
  go_wp2
  go_ret
  exact ⟨rfl, rfl⟩
set_option maxHeartbeats 1000000 in
theorem dkShape_any {B : Nat} {w : World} {D : Nat} {d : DkS} {O : Nat → Prop} (h : DkAt B w D d O) : Calls Try.prog 88 #[.pointer (some ⟨D, 0, none⟩)] w fun e w' => e = .returned (.tuple #[.int .i64 (d.S : Nat), .int .i64 (d.z : Nat)]) ∧ ∃ k, w' = w.drewN k := by
  obtain ⟨Kb, Mb, pv, P, kv, Da, hi, h2, h3⟩ := h
  have c3 := hi.c3
  have c4 := hi.c4
  clear hi h2 h3
  have HW : Hid (∀ m, ∃ k, w.drewN m = w.drewN k) := fun m => ⟨m, rfl⟩
  go_enter Try.func88, Try.ntmps88
  go_upto_region 1 with (fail)
  go_quiet (fail)
  go_wp2
  go_ret2
  exact ⟨rfl, HW.out _⟩
set_option maxRecDepth 100000 in
set_option maxHeartbeats 1000000 in
theorem dkNew_any (w : World) {S z : Nat} (h : 1 ≤ S ∧ S ≤ 65536 ∧ 64 ≤ z ∧ z ≤ 4096) :
    Calls Try.prog 26 #[.int .i64 (S : Nat), .int .i64 (z : Nat)] w fun e w' => ∃ D, e = .returned (.tuple #[.pointer (some ⟨D, 0, none⟩), .int .i64 0]) ∧ Below w.heap.size w w' ∧ ∃ O, DkAt w.heap.size w' D (dk0 S z) O := by
  have hmk := run_make_rows S (by omega)
  have hmm := @run_makeMap Try.prog
  go_enter Try.func26, Try.ntmps26
  go_wp2_with fail
  refine (dkRight_any w h).mono ?_
  rintro _ w1 ⟨rfl, rfl⟩
  have HF : Hid (Below w1.heap.size w1 (((w1.alloc (.cells (madeCells #[.slice none 0 0] S) 28)).alloc (.map #[] 0)).alloc (.cells #[.bool false, .int .i64 0, .slice none 0 0, .int .i64 (z : Nat), .slice (some ⟨w1.heap.size, 0, none⟩) S S, .slice none 0 0, .map (some (w1.heap.size + 1)), .int .i64 0, .int .i64 0] 74)) ∧
      ∃ O, DkAt w1.heap.size (((w1.alloc (.cells (madeCells #[.slice none 0 0] S) 28)).alloc (.map #[] 0)).alloc (.cells #[.bool false, .int .i64 0, .slice none 0 0, .int .i64 (z : Nat), .slice (some ⟨w1.heap.size, 0, none⟩) S S, .slice none 0 0, .map (some (w1.heap.size + 1)), .int .i64 0, .int .i64 0] 74)) (w1.heap.size + 1 + 1) (dk0 S z) O) := by
    obtain ⟨w2, hw2⟩ : ∃ w2, w2 = w1.alloc (.cells (madeCells #[.slice none 0 0] S) 28) := ⟨_, rfl⟩
    obtain ⟨w3, hw3⟩ : ∃ w3, w3 = w2.alloc (.map #[] 0) := ⟨_, rfl⟩
    have s2 : w2.heap.size = w1.heap.size + 1 := by rw [hw2]; simp
    have s3 : w3.heap.size = w1.heap.size + 1 + 1 := by rw [hw3]; simp [s2]
    have b2 : Below w1.heap.size w1 w2 := by rw [hw2]; exact (Below.refl _ _).alloc (Nat.le_refl _) _
    have b3 : Below w2.heap.size w2 w3 := by rw [hw3]; exact (Below.refl _ _).alloc (Nat.le_refl _) _
    have h2 : w2.heap[w1.heap.size]? = some (.cells (madeCells #[.slice none 0 0] S) 28 (0, 0)) := by rw [hw2]; exact heap_alloc_new _ _
    have h3 : MapIs Try.prog 109 w3 (w1.heap.size + 1) (fun _ => none) 0 := by
      have := MapIs.made (P := Try.prog) (k := 109) w2
      rw [← hw3, s2] at this
      exact this
    rw [← hw2, ← hw3]
    obtain ⟨w4, hw4⟩ : ∃ w4, w4 = w3.alloc (.cells #[.bool false, .int .i64 0, .slice none 0 0, .int .i64 (z : Nat), .slice (some ⟨w1.heap.size, 0, none⟩) S S, .slice none 0 0, .map (some (w1.heap.size + 1)), .int .i64 0, .int .i64 0] 74) := ⟨_, rfl⟩
    have b4 : Below w3.heap.size w3 w4 := by rw [hw4]; exact (Below.refl _ _).alloc (Nat.le_refl _) _
    have h4 : w4.heap[w3.heap.size]? = some (.cells #[.bool false, .int .i64 0, .slice none 0 0, .int .i64 (z : Nat), .slice (some ⟨w1.heap.size, 0, none⟩) S S, .slice none 0 0, .map (some (w1.heap.size + 1)), .int .i64 0, .int .i64 0] 74 (0, 0)) := by rw [hw4]; exact heap_alloc_new _ _
    have s4 : w4.heap.size = w1.heap.size + 1 + 1 + 1 := by rw [hw4]; simp [s3]
    rw [← hw4]
    have h2' : w4.heap[w1.heap.size]? = some (.cells (madeCells #[.slice none 0 0] S) 28 (0, 0)) := by
      rw [b4.block _ (by omega), b3.block _ (by omega)]; exact h2
    rw [s3] at h4
    have b14 := below_upto (below_upto b2 b3 (Nat.le_refl _)) b4 (Nat.le_refl _)
    clear hw2 hw3 hw4
    refine ⟨b14, fun g => g = w1.heap.size ∨ g = w1.heap.size + 1 ∨ g = w1.heap.size + 1 + 1, w1.heap.size, w1.heap.size + 1, .slice none 0 0, [], fun _ => .slice none 0 0, fun _ => False, ?_, fun g hg => ?_, fun g hg => ?_⟩
    · refine ⟨by rw [cell_of_row _ _ _ _ _ _ h4]; rfl, by rw [cell_of_row _ _ _ _ _ _ h4]; rfl, ⟨_, by rw [cell_of_row _ _ _ _ _ _ h4]; rfl⟩, by rw [cell_of_row _ _ _ _ _ _ h4]; rfl, by rw [cell_of_row _ _ _ _ _ _ h4]; rfl, by rw [cell_of_row _ _ _ _ _ _ h4]; rfl, by rw [cell_of_row _ _ _ _ _ _ h4]; rfl, ⟨0, by rw [cell_of_row _ _ _ _ _ _ h4]; rfl⟩, ⟨0, by rw [cell_of_row _ _ _ _ _ _ h4]; rfl⟩,
        fun j => by unfold World.frozen?; rw [h4]; simp, World.ownsRow_nil _ _ _ _, rfl, fun p hp => by simp at hp, fun k hk => ?_, fun j => by unfold World.frozen?; rw [h2']; simp, fun _ _ _ => rfl, (fun k L hk h => by cases h), ⟨0, ?_⟩, ⟨by omega, by omega, by omega, (fun g h => by cases h)⟩, fun g h => h.elim, ⟨by show 0 < z; omega, by show z ≤ 4096; omega, by show 0 < S; omega, by show S ≤ 65536; omega⟩⟩
      · rw [cell_of_row _ _ _ _ _ _ h2']
        have hk' : k < S := hk
        rw [made_at _ _ _ hk']
        simp [Nat.mod_one]
      · rw [lastG_dk0, pF_none]
        exact h3.off (S := fun _ => False) (Off.of_below b4) id
    · rcases hg with (e | e | e | e) | e
      · exact .inr (.inr e)
      · exact .inl e
      · exact .inr (.inl e)
      · cases e
      · exact e.elim
    · rcases hg with e | e | e <;> omega
  go_wp2
  go_ret2
  exact ⟨_, rfl, HF.out.1, HF.out.2⟩
end Go.Proofs.Ytlmgihnnphmmhaa
namespace Go.Proofs.Ytlmgihnnphmmhaa
open Go.RowKit
set_option linter.unusedVariables false
set_option linter.unusedSimpArgs false

theorem zeroCells_u8 (m : Nat) : (Builtin.zeroCells #[.int .u8 0] m).toList = (zeros m).map bv := by
  apply List.ext_getElem?
  intro i
  by_cases hi : i < m
  · simp [Builtin.zeroCells, zeros, hi, bv, Nat.mod_one]
  · rw [List.getElem?_eq_none (by simp [Builtin.zeroCells]; omega), List.getElem?_eq_none (by rw [List.length_map, zeros_length]; omega)]
theorem run_asInt64 (n : Int) (w : World) : (asInt (.int .i64 n)).run Try.prog w = .ok n w := by simp [asInt, asIntOf]
theorem run_appZ {B : Nat} {w : World} {v : Value} {L : Bytes} {m : Nat} (hown : OwB B w v L) (hL : L ≠ []) (hB : B ≤ w.heap.size) (hlen : L.length + m ≤ 1073741824) (ty : TypeId) :
    ∃ v' w', (Builtin.append_ #[28, 3] ty #[v, .int .i64 (m : Nat)]).run Try.prog w = .ok v' w' ∧ OwB B w' v' (L ++ zeros m) ∧ w.grownBy w' v.ownBlock ∧ (v'.ownBlock = v.ownBlock ∨ v'.ownBlock = some w.heap.size) := by
  obtain ⟨i, hi, hz0, hz1, hz2⟩ := info_parts byte_info
  have hpos : 0 < L.length := List.length_pos_iff.2 hL
  rcases hown.2 with ⟨_, h0⟩ | ⟨g, cap, cur, rfl, hb, hg, h1, h2, h3, h4⟩
  · omega
  have hm0 : ¬ ((m : Int) < 0) := by omega
  have hw : IntKind.i64.wrap (m : Int) = (m : Int) := IntWalk.i64_in _ (by omega)
  have h48 : ¬ (281474976710656 < (m : Int)) := by omega
  have hlz : (L ++ zeros m).length = L.length + m := by rw [List.length_append, zeros_length]
  rw [Nat.mul_one] at h3 h4
  have hmap : (L ++ zeros m).map bv = L.map bv ++ (zeros m).map bv := List.map_append
  by_cases hroom : L.length + m ≤ cap
  · refine ⟨.slice (some ⟨g, 0, none⟩) (L ++ zeros m).length cap, w.setRow g (cur.toList.take L.length ++ (zeros m).map bv ++ cur.toList.drop (L.length + m)).toArray, ?_, ⟨by rw [List.length_map, Nat.mul_one], .inr ⟨g, cap, _, rfl, hb, setRow_heap w g cur _ 5 _ hg, by rw [hlz]; exact hroom, h2, ?_, ?_⟩⟩, ⟨rfl, rfl, rfl, by simp, fun k _ hk => setRow_other w g k _ (fun e => hk (by simp [Value.ownBlock, e]))⟩, Or.inl rfl⟩
    · have hst := run_storeCells_at Try.prog g L.length 5 ((zeros m).map bv) 0 cur w hg (by rw [List.length_map, zeros_length]; omega) (fun u hu => by
        obtain ⟨x, _, rfl⟩ := List.mem_map.1 hu
        simp [bv, Value.oneCell'])
      simp only [Nat.add_zero, List.length_map, zeros_length] at hst
      rw [hlz]
      by_cases hmz : m = 0
      · subst hmz
        have hw0 : IntKind.i64.wrap 0 = 0 := rfl
        simp [hw0, h1, Builtin.append_, run_underlying Try.underlying28, run_underlying Try.underlying3, sizeOf, typeInfo, hi, hz1, hz2, Builtin.lenOf, hroom, hw, hm0, run_asInt64, Addr.add_lit, zeros, storeCells] at hst ⊢
        exact hst
      · simp [Builtin.append_, run_underlying Try.underlying28, run_underlying Try.underlying3, sizeOf, typeInfo, hi, hz1, hz2, Builtin.lenOf, hroom, hw, hm0, run_asInt64, Addr.add_lit, hmz, h48, zeroValue, hz0, Value.cells, zeroCells_u8, hst]
    · simp only [List.size_toArray, List.length_append, List.length_take, List.length_drop, Array.length_toList, List.length_map, zeros_length]
      omega
    · rw [hmap, h4, hlz, Nat.mul_one]
      simp only [List.append_assoc]
      rw [← List.append_assoc]
      refine List.take_left' ?_
      rw [List.length_append, List.length_map, List.length_map, zeros_length]
  · have hge := grownCap_ge w (L.length + m) cap 5
    have hcm := grownCap_le_maxLen w (L.length + m) cap 5 (by unfold maxLen; omega)
    have h63' : ¬ (9223372036854775807 < ((L.length : Int) + (m : Int))) := by omega
    have hmz : m ≠ 0 := by omega
    have hfit := growslice_fits (need := L.length + m) (old := cap) (bytes := 1) (by omega) (by omega)
    have h48' : ¬ (281474976710656 < Builtin.nextslicecap (L.length + m) cap * 1) := by omega
    have h48'' : ¬ (281474976710656 < Builtin.nextslicecap (L.length + m) cap) := by omega
    have holds : ∀ j u, (L.map bv)[j]? = some u → w.cell? ((⟨g, 0, none⟩ : Addr).add j) = some u := World.ownsRow.cells hown (g := g) rfl
    have hfo := run_firstCells_some (P := Try.prog) w.drew 1 L.length ⟨g, 0, none⟩ L.length cap (L.map bv) (by simp) (by simpa using holds)
    refine ⟨.slice (some ⟨w.heap.size, 0, none⟩) (L ++ zeros m).length (grownCap w (L.length + m) cap 5), w.drew.alloc (.cells ((L.map bv).toArray ++ ((zeros m).map bv).toArray ++ Builtin.zeroCells #[.int .u8 0] (grownCap w (L.length + m) cap 5 - (L.length + m))) 5), ?_,
      ⟨by rw [List.length_map, Nat.mul_one], .inr ⟨w.heap.size, _, _, rfl, hB, heap_alloc_new w.drew _, by rw [hlz]; exact hge, hcm, ?_, ?_⟩⟩, ⟨rfl, rfl, rfl, by simp, fun k hk _ => heap_alloc_old w.drew _ (h := hk)⟩, Or.inr rfl⟩
    · have hz : (Builtin.zeroCells #[.int .u8 0] m) = ((zeros m).map bv).toArray := by rw [← zeroCells_u8]
      rw [hlz]
      simp [Builtin.append_, run_underlying Try.underlying28, run_underlying Try.underlying3, sizeOf, typeInfo, zeroValue, hi, hz0, hz1, hz2, Builtin.lenOf, hroom, hw, hm0, run_asInt64, hmz, h48, h63', h48', h48'', Question.forced, hfo, newRow, grownCap, Value.cells, hz]
      refine congrArg (fun c => w.drew.alloc (.cells c 5)) ?_
      apply Array.ext'
      simp [List.append_assoc]
    · simp only [Array.size_append, List.size_toArray, size_zeroCells, List.length_map, zeros_length]
      simp
      omega
    · rw [hlz, hmap, Nat.mul_one]
      simp only [Array.toList_append, List.append_assoc]
      rw [← List.append_assoc]
      refine List.take_left' ?_
      rw [List.length_append, List.length_map, List.length_map, zeros_length]
/-- At the operation, in a plain region. -/
theorem wpList_appZ {ops : Array Oper} {rest : List Oper} {o : Oper} {a : Act} {w : World} {Q : Exit → Act → World → Prop} (hgd : o.guard = none) (s x : Operand)
    (ho : o.op = .call { callee := .builtin .append, args := #[s, x], argTypes := #[28, 3] }) (w0 : World) (v : Value) (L : Bytes) (hs : a.eval s = v) (hown : FrB w0 w v L) (hL : L ≠ []) (m : Nat) (hx : a.eval x = .int .i64 (m : Nat))
    (hlen : L.length + m ≤ 1073741824) (n' : Nat) (hn' : L.length + m = n')
    (h : ∀ A' c' w', FrB w0 w' (.slice A' n' c') (L ++ zeros m) → Off (fun k => v.ownBlock = some k) w w' → wpList Try.prog ops Q rest (a.put o.dst (.slice A' n' c')) w') : wpList Try.prog ops Q (o :: rest) a w := by
  obtain ⟨v', w', hr, h1, h2, h3⟩ := run_appZ hown.own hL hown.bel.size hlen o.type
  obtain ⟨A', c', rfl, _⟩ := h1.form
  have hl : (L ++ zeros m).length = n' := by rw [List.length_append, zeros_length, hn']
  rw [hl] at h1 h3 hr
  refine wpList_plain hgd fun K hK => ?_
  unfold Oper.wp execOp
  simp only [ho, resolve, invoke, builtin, Sem.run_bind, Sem.run_pure, Result.andThen_ok, List.map_toArray, List.map_cons, List.map_nil, hs, hx, hr]
  exact hK _ _ (h A' c' w' ⟨h1, hown.own.below hown.bel h2 hown.bel.size⟩ (grown_off h2))
end Go.Proofs.Ytlmgihnnphmmhaa
