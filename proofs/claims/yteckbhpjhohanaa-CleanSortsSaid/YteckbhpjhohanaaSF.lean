/- Clone, SortStableFunc, clean.Sort. -/
import Derived.Test.YteckbhpjhohanaaSE
namespace Go.Proofs.Yteckbhpjhohanaa
open Go.RowKit
set_option linter.unusedVariables false
set_option linter.unusedSimpArgs false

theorem int_info : (Try.prog.info? 3).map (fun i => (i.zero, i.size, i.bytes)) = some (some (.int .i64 0), 1, 8) := by kernel_rfl
def rowI (D : Nat → Int) (n : Nat) : List Value := (List.range n).map fun i => .int .i64 (D i)
theorem rowI_at {D : Nat → Int} {n i : Nat} (h : i < n) : (rowI D n)[i]? = some (.int .i64 (D i)) := by simp [rowI, h]
theorem rowI_succ (D : Nat → Int) (n : Nat) : rowI D n ++ [.int .i64 (D n)] = rowI D (n + 1) := by simp [rowI, List.range_succ]

def ClonePost (D : Nat → Int) (n : Nat) (w : World) (en : Ending) (w' : World) : Prop :=
  ∃ B K, en = .returned (.slice (some ⟨B, 0, none⟩) n K) ∧ w.heap.size ≤ B ∧ (∀ i, i < n → w'.cell? ⟨B, i, none⟩ = some (.int .i64 (D i))) ∧ (∀ j, w'.frozen? ⟨B, j, none⟩ = false) ∧ Below w.heap.size w w'
theorem add0 (g j : Nat) : (⟨g, 0, none⟩ : Addr).add j = ⟨g, j, none⟩ := by
  unfold Addr.add
  split
  · rename_i h; rw [h]
  · simp
theorem eq_nil_no (a : Addr) (n c : Nat) (w : World) : (binOp BinOp.eql 22 (.slice (some a) n c) (.slice none 0 0)).run Try.prog w = .ok (.bool false) w := by kernel_rfl
theorem eq_nil_yes (w : World) : (binOp BinOp.eql 22 (.slice none 0 0) (.slice none 0 0)).run Try.prog w = .ok (.bool true) w := by kernel_rfl
theorem rowI_len (D : Nat → Int) (n : Nat) : (rowI D n).length = n * 1 := by simp [rowI]
theorem rowI_one (D : Nat → Int) (n : Nat) : ∀ u ∈ rowI D n, u.oneCell' = true := by
  intro u hu
  simp only [rowI, List.mem_map] at hu
  obtain ⟨i, _, rfl⟩ := hu
  rfl
theorem rowI_new {w : World} {g n : Nat} {D : Nat → Int} (hc : ∀ i, i < n → w.cell? ⟨g, i, none⟩ = some (.int .i64 (D i))) : ∀ j u, (rowI D n)[j]? = some u → w.cell? ((⟨g, 0, none⟩ : Addr).add j) = some u := by
  intro j u hu
  have hj : j < n := by
    have := (List.getElem?_eq_some_iff.1 hu).1
    rw [rowI_len] at this
    omega
  rw [rowI_at hj] at hu
  rw [add0, hc j hj, hu]
set_option maxHeartbeats 1000000 in
theorem clone_any {g c : Nat} (w : World) (n : Nat) (D : Nat → Int) (hn : 0 < n) (hm : n ≤ 200) (hc : ∀ i, i < n → w.cell? ⟨g, i, none⟩ = some (.int .i64 (D i))) :
    Calls Try.prog 8 #[.slice (some ⟨g, 0, none⟩) n c] w (ClonePost D n w) := by
  obtain ⟨i0, hi, hz0, hz1, hz2⟩ := info_parts int_info
  have q := eq_nil_no ⟨g, 0, none⟩ n c w
  have HC : Hid (∀ i, i < n → (w.alloc (.cells #[] 3)).cell? ⟨g, i, none⟩ = some (.int .i64 (D i))) := fun i hi => by
    rw [((Below.refl _ w).alloc (Nat.le_refl _) _).cell (p := ⟨g, i, none⟩) (lt_of_cell (hc i hi))]; exact hc i hi
  clear hc
  go_enter Try.func8, Try.ntmps8
  go_wp2_with (at_builtin; go_must (refine wpList_append_lies _ rfl (.tmp 5) (.tmp 6) 22 rfl w.heap.size 3 i0 _ 1 8 Try.underlying22 hi hz0 hz1 hz2 rfl (by omega) _ 0 [] rfl (World.ownsRow_made w #[] 0 (Nat.le_refl _) (by unfold maxLen; omega) (by simp)) ⟨g, 0, none⟩ n c (rowI D n) rfl (rowI_len D n) (rowI_new HC.out) (rowI_one D n) hn (by unfold maxLen; omega) (by omega) (by simp) (w.heap.size + 1) (by simp) ?_); intro gg cap w1 hown hgrow hat hlt)
  simp only [List.nil_append, Nat.zero_add] at hown
  have HX : Hid (ClonePost D n w (.returned (.slice (some ⟨gg, 0, none⟩) n cap)) w1) := by
    refine ⟨gg, cap, rfl, (hown.lt gg rfl).1, fun i hi => by rw [hown.cellAt i (by omega), rowI_at hi], fun j => hown.frozenAt j, Below.grown ((Below.refl _ _).alloc (Nat.le_refl _) _) hgrow (by simp) fun k hk => ?_⟩
    have h1 : some w.heap.size = some k := hk
    have h2 := Option.some.inj h1
    omega
  clear hown hgrow hat hlt
  go_wp2
  go_ret
  exact HX.out
theorem sortStable_any {K : Nat} (w : World) (e : Env) (B : Nat) (D : Nat → Int) (h : DS w e B D) (hn : 0 < e.n) :
    Calls Try.prog 9 #[.slice (some ⟨B, 0, none⟩) e.n K, .func (.func 10) #[] #[.pointer (some ⟨e.cF, 0, none⟩)]] w (InsPost e B 0 e.n D w) := by
  have hm := h.env.most
  have HD := Lib.hid h
  clear h
  go_enter Try.func9, Try.ntmps9
  go_wp2_with fail
  refine (stable_any (K := K) _ e B D HD.out hn).mono ?_
  rintro _ w1 ⟨D1, rfl, p2, s2, hd2, ho2⟩
  have HX : Hid (InsPost e B 0 e.n D w (.returned (.tuple #[])) w1) := ⟨D1, rfl, p2, s2, hd2, ho2⟩
  clear p2 s2 hd2 ho2
  go_wp2
  go_end0
  exact HX.out

/-- What the sort is given: the law's variables. -/
structure PreAt (w : World) (e : Env) : Prop where
  hN : ∃ x, w.cell? ⟨e.cN, 0, none⟩ = some (.int .i64 x)
  zN : w.frozen? ⟨e.cN, 0, none⟩ = false
  hO : w.cell? ⟨e.cO, 0, none⟩ = some (.bool e.odd)
  hL : w.cell? ⟨e.cL, 0, none⟩ = some (.slice e.A e.n e.cap)
  hB : w.cell? ⟨e.cB, 0, none⟩ = some (.int .i64 e.div)
  ls : SI w e.A e.n e.L
  ne : e.cN ≠ e.cO ∧ e.cN ≠ e.cL ∧ e.cN ≠ e.cB ∧ ∀ o, e.A ≠ some ⟨e.cN, o, none⟩
  pos : 1 ≤ e.div
  most : e.n ≤ 200
/-- With the closure's cell at F. -/
def Env.at_ (e : Env) (F : Nat) : Env := { e with cF := F }
theorem PreAt.env {w : World} {e : Env} (h : PreAt w e) (t : TypeId) : EnvAt (w.alloc (.cells #[e.fn] t)) (e.at_ w.heap.size) := by
  have hb : Below w.heap.size w (w.alloc (.cells #[e.fn] t)) := (Below.refl _ _).alloc (Nat.le_refl _) _
  have hc : ∀ {b : Nat} {v : Value}, w.cell? ⟨b, 0, none⟩ = some v → (w.alloc (.cells #[e.fn] t)).cell? ⟨b, 0, none⟩ = some v := fun hv => (hb.cell (lt_of_cell hv)).trans hv
  obtain ⟨x, hx⟩ := h.hN
  have b3 : (w.alloc (.cells #[e.fn] t)).heap[w.heap.size]? = some (.cells #[e.fn] t (0, 0)) := heap_alloc_new w _
  refine ⟨⟨x, hc hx⟩, (hb.frozen (p := ⟨e.cN, 0, none⟩) (lt_of_cell hx)).trans h.zN, hc h.hO, hc h.hL, hc h.hB, ?_, h.ls.off (S := fun _ => False) (Off.of_below hb) (fun _ _ _ => id), ?_, h.pos, h.most⟩
  · show (w.alloc (.cells #[e.fn] t)).cell? ⟨w.heap.size, 0, none⟩ = some e.fn
    rw [cell_of_row _ _ _ _ _ _ b3]; rfl
  · obtain ⟨n1, n2, n3, n4⟩ := h.ne
    rintro (k | k | k | k | ⟨o, k⟩)
    · exact n1 k
    · exact n2 k
    · exact n3 k
    · have := lt_of_cell hx
      have k' : e.cN = w.heap.size := k
      omega
    · exact n4 o k

def SortPost (e : Env) (D : Nat → Int) (w : World) (en : Ending) (w' : World) : Prop :=
  ∃ B K D', en = .returned (.slice (some ⟨B, 0, none⟩) e.n K) ∧ w.heap.size ≤ B ∧ Pm 0 e.n D D' ∧ (e.odd = false → Rise 0 e.n D → Srt e.val 0 e.n D') ∧ (∀ i, i < e.n → w'.cell? ⟨B, i, none⟩ = some (.int .i64 (D' i))) ∧ Off (· = e.cN) w w'

/-- Behind the copy all lies as the sort asks. -/
theorem sort_ds {w w1 : World} {e : Env} {B : Nat} {D : Nat → Int} {t : TypeId} (h : PreAt w e) (hr : ∀ i, i < e.n → ∃ k : Nat, D i = k ∧ k < e.n) (hB : w.heap.size + 1 ≤ B) (hc : ∀ i, i < e.n → w1.cell? ⟨B, i, none⟩ = some (.int .i64 (D i))) (hz : ∀ j, w1.frozen? ⟨B, j, none⟩ = false)
    (hb : Below (w.heap.size + 1) (w.alloc (.cells #[e.fn] t)) w1) (hn : 0 < e.n) : DS w1 (e.at_ w.heap.size) B D := by
  have hs : (w.alloc (.cells #[e.fn] t)).heap.size = w.heap.size + 1 := by simp
  have he := (h.env t).up (w' := w1) (by rw [hs]; exact hb)
  obtain ⟨x, hx⟩ := h.hN
  refine ⟨he, hc, hz, hr, ?_, ?_⟩
  · obtain ⟨b, o, hA, hlt, _⟩ := h.ls hn
    rintro (k | k | k | k | ⟨o', k⟩)
    · have := lt_of_cell h.hO; have k' : B = e.cO := k; omega
    · have := lt_of_cell h.hL; have k' : B = e.cL := k; omega
    · have := lt_of_cell h.hB; have k' : B = e.cB := k; omega
    · have k' : B = w.heap.size := k; omega
    · have k' : e.A = some ⟨B, o', none⟩ := k
      rw [hA] at k'
      cases k'
      omega
  · have := lt_of_cell hx
    show B ≠ e.cN
    omega

set_option maxHeartbeats 1000000 in
theorem sort_any {g c : Nat} (w : World) (e : Env) (D : Nat → Int) (h : PreAt w e) (hn : 0 < e.n) (hc : ∀ i, i < e.n → w.cell? ⟨g, i, none⟩ = some (.int .i64 (D i))) (hr : ∀ i, i < e.n → ∃ k : Nat, D i = k ∧ k < e.n) :
    Calls Try.prog 5 #[.slice (some ⟨g, 0, none⟩) e.n c, e.fn] w (SortPost e D w) := by
  have HP := Lib.hid h
  have HR := Lib.hid hr
  have HC : Hid (∀ (v : Value) t i, i < e.n → (w.alloc (.cells #[v] t)).cell? ⟨g, i, none⟩ = some (.int .i64 (D i))) := fun v t i hi => by
    rw [((Below.refl _ w).alloc (Nat.le_refl _) _).cell (p := ⟨g, i, none⟩) (lt_of_cell (hc i hi))]; exact hc i hi
  have hm := h.most
  clear h hc hr
  unfold Env.fn
  go_enter Try.func5, Try.ntmps5
  go_wp2_with fail
  refine (clone_any _ e.n D hn hm (HC.out _ _)).mono ?_
  rintro _ w1 ⟨B, K, rfl, hB, hc, hz, hb⟩
  simp only [World.size_alloc] at hB hb
  have HD : Hid (DS w1 (e.at_ w.heap.size) B D) := sort_ds HP.out HR.out hB hc hz hb hn
  have HB : Hid (Below w.heap.size w w1) := ((Below.refl _ w).alloc (Nat.le_refl _) _).trans (hb.mono (by omega))
  clear hc hz hb HC HP HR
  go_wp2_with fail
  refine (sortStable_any (K := K) _ (e.at_ w.heap.size) B D HD.out hn).mono ?_
  rintro _ w2 ⟨D2, rfl, p2, s2, hd2, ho2⟩
  have HX : Hid (SortPost e D w (.returned (.slice (some ⟨B, 0, none⟩) e.n K)) w2) := by
    refine ⟨B, K, D2, rfl, by omega, p2, s2, hd2.dat, Off.late (S' := SBl (e.at_ w.heap.size) B) (Off.of_below HB.out) ho2 fun i hi hs => ?_⟩
    rcases hs with hs | hs
    · omega
    · exact hs
  clear p2 s2 hd2 ho2 HD HB
  go_wp2
  go_ret
  exact HX.out

/-! ### no number at all -/
theorem clone_none (w : World) : Calls Try.prog 8 #[.slice none 0 0] w fun en w' => en = .returned (.slice none 0 0) ∧ Below w.heap.size w w' := by
  have q := eq_nil_yes w
  go_enter Try.func8, Try.ntmps8
  go_wp2
  go_ret
  exact ⟨rfl, Below.refl _ _⟩
theorem ins_none (w : World) (cmp : Value) : Calls Try.prog 15 #[.slice none 0 0, .int .i64 0, .int .i64 0, cmp] w fun en w' => en = .returned (.tuple #[]) ∧ Below w.heap.size w w' := by
  go_enter Try.func15, Try.ntmps15
  go_wp2
  go_loopw [8] (fun u wr => u = .int .i64 1 ∧ Below w.heap.size w wr) (fun u _ => 0)
  case atStart => exact ⟨rfl, Below.refl _ _⟩
  case round =>
    obtain ⟨rfl, hb⟩ := hrel
    go_wp2
    go_end0
    exact ⟨rfl, hb⟩
theorem stable_none (w : World) (cmp : Value) : Calls Try.prog 12 #[.slice none 0 0, .int .i64 0, cmp] w fun en w' => en = .returned (.tuple #[]) ∧ Below w.heap.size w w' := by
  go_enter Try.func12, Try.ntmps12
  go_wp2
  go_loopw [7, 8] (fun u v wr => u = .int .i64 0 ∧ v = .int .i64 20 ∧ Below w.heap.size w wr) (fun _ _ _ => 0)
  case atStart => exact ⟨rfl, rfl, Below.refl _ _⟩
  case round =>
    obtain ⟨rfl, rfl, hb⟩ := hrel
    go_wp2_with fail
    refine (ins_none _ _).mono ?_
    rintro _ w1 ⟨rfl, hb1⟩
    have HB := Lib.hid (below_upto hb hb1 (Nat.le_refl _))
    clear hb hb1
    go_wp2
    go_loopw [6, 7, 8] (fun u v x wr => u = .int .i64 20 ∧ v = .int .i64 0 ∧ x = .int .i64 20 ∧ Below w.heap.size w wr) (fun _ _ _ _ => 0)
    case atStart => exact ⟨rfl, rfl, rfl, HB.out⟩
    case round =>
      obtain ⟨rfl, rfl, rfl, hb⟩ := hrel
      go_wp2
      go_end0
      exact ⟨rfl, hb⟩
theorem sortStable_none (w : World) (cmp : Value) : Calls Try.prog 9 #[.slice none 0 0, cmp] w fun en w' => en = .returned (.tuple #[]) ∧ Below w.heap.size w w' := by
  go_enter Try.func9, Try.ntmps9
  go_wp2_with fail
  refine (stable_none _ _).mono ?_
  rintro _ w1 ⟨rfl, hb1⟩
  go_wp2
  go_end0
  exact ⟨rfl, hb1⟩
theorem sort_none (w : World) (fn : Fn) (ps : Array Value) : Calls Try.prog 5 #[.slice none 0 0, .func fn #[] ps] w fun en w' => en = .returned (.slice none 0 0) ∧ Below w.heap.size w w' := by
  go_enter Try.func5, Try.ntmps5
  go_wp2_with fail
  refine (clone_none _).mono ?_
  rintro _ w1 ⟨rfl, hb1⟩
  simp only [World.size_alloc] at hb1
  have HB : Hid (Below w.heap.size w w1) := ((Below.refl _ w).alloc (Nat.le_refl _) _).trans (hb1.mono (by omega))
  clear hb1
  go_wp2_with fail
  refine (sortStable_none _ _).mono ?_
  rintro _ w2 ⟨rfl, hb2⟩
  have HX := Lib.hid (below_upto HB.out hb2 (Nat.le_refl _))
  clear HB hb2
  go_wp2
  go_ret
  exact ⟨rfl, HX.out⟩
end Go.Proofs.Yteckbhpjhohanaa
