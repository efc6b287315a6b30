/- radix: Nodes' own function; the row of addresses. -/
import Derived.Test.YtgkdggidgaifhaaRwZ
import Derived.Test.YtgkdggidgaifhaaMD
namespace Go.Proofs.Ytgkdggidgaifhaa
open Go.RowKit
set_option linter.unusedVariables false
set_option linter.unusedSimpArgs false
theorem addr_info : (Try.prog.info? 30).map (fun i => (i.zero, i.size, i.bytes)) = some (some (.agg #[.int .i64 0, .int .i64 0]), 2, 16) := by kernel_rfl
/-- An address in a row. -/
noncomputable def elR : ElG (Int × Int) where
  sl := 53
  el := 30
  i := Classical.choose (info_parts addr_info)
  z := .agg #[.int .i64 0, .int .i64 0]
  bytes := 16
  k := 2
  ht := Try.underlying53
  hi := (Classical.choose_spec (info_parts addr_info)).1
  hz := (Classical.choose_spec (info_parts addr_info)).2.1
  hsize := (Classical.choose_spec (info_parts addr_info)).2.2.1
  hby := (Classical.choose_spec (info_parts addr_info)).2.2.2
  hzs := rfl
  hk := by omega
  hb64 := by omega
  cells := fun x => [.int .i64 x.1, .int .i64 x.2]
  len := fun _ => rfl
  blk := fun _ _ => False
  ok := fun _ x => Bd x
  one := fun {w x} _ u hu => by
    simp only [List.mem_cons, List.not_mem_nil, or_false] at hu
    rcases hu with rfl | rfl <;> rfl
  off := fun h _ _ => h
  lt := fun _ h => h.elim
/-- Nodes' own function: the addresses that are passed. -/
def cbN (a : List (Int × Int)) (r : Int × Int) (_ : RN) : List (Int × Int) × Bool := (a ++ [r], true)
def ivN (B : Nat) (w : World) (O : Nat → Prop) (a : List (Int × Int)) : Prop := ∃ (A : Option Addr) (c : Nat), RwIv elR B B w a A c ∧ ∀ k, O k ↔ rvO elR B a A a.length c k
theorem ivN.off {B : Nat} {S O : Nat → Prop} {w w' : World} {a : List (Int × Int)} (h : ivN B w O a) (ho : Off S w w') (hs : ∀ k, S k → ¬ O k) : ivN B w' O a := by
  obtain ⟨A, c, hi, hO⟩ := h
  exact ⟨A, c, hi.off ho (fun k hk e2 => hs k hk ((hO k).2 e2)), hO⟩
theorem ivN.lt {B : Nat} {O : Nat → Prop} {w : World} {a : List (Int × Int)} {k : Nat} (h : ivN B w O a) (hk : O k) : k < w.heap.size := by
  obtain ⟨A, c, hi, hO⟩ := h
  exact hi.lt ((hO k).1 hk)
set_option maxRecDepth 100000 in
set_option maxHeartbeats 2000000 in
theorem nodes1_any {B X : Nat} {w : World} {O : Nat → Prop} {a : List (Int × Int)} (r : Int × Int) (h : ivN B w O a) (hl : a.length + 1 ≤ 33554432) (hbr : Bd r) :
    Calls Try.prog 31 #[.agg #[.int .i64 r.1, .int .i64 r.2], .pointer (some ⟨X, 0, none⟩), .pointer (some ⟨B, 0, none⟩)] w (VsPost (ivN B) w O (a ++ [r], true)) := by
  obtain ⟨ra, rb⟩ := r
  obtain ⟨A, c, hI, hO⟩ := h
  have HI := Lib.hid hI
  have HO := Lib.hid hO
  have cB := hI.box
  have lB := lt_of_cell cB
  clear hI hO
  go_enter Try.func31, Try.ntmps31
  go_upto_region 1 with (fail)
  have hb0 : Below w.heap.size w (w.alloc (.cells #[.int .i64 ra, .int .i64 rb] 30)) := (Below.refl _ _).alloc (Nat.le_refl _) _
  have hsl : ∀ j u, [Value.int .i64 ra, .int .i64 rb][j]? = some u → (w.alloc (.cells #[.int .i64 ra, .int .i64 rb] 30)).cell? ⟨w.heap.size, j, none⟩ = some u := fun j u hj => (Bx.new w 30 [Value.int .i64 ra, .int .i64 rb] (by simp)).c j u hj
  have q0 := hsl 0 _ rfl
  have q1 := hsl 1 _ rfl
  have cB1 := (hb0.cell (p := ⟨B, 0, none⟩) lB).trans cB
  have hsz : (w.alloc (.cells #[.int .i64 ra, .int .i64 rb] 30)).heap.size = w.heap.size + 1 := by simp
  refine wp_forget (fun V => Below w.heap.size w V ∧ V.cell? ⟨w.heap.size, 0, none⟩ = some (.int .i64 ra) ∧ V.cell? ⟨w.heap.size, 1, none⟩ = some (.int .i64 rb) ∧ V.heap.size = w.heap.size + 1) ⟨hb0, q0, q1, hsz⟩ ?_
  clear hb0 hsl q0 q1 cB1 hsz
  rintro V ⟨hb0, q0, q1, hsz⟩
  have cB1 := (hb0.cell (p := ⟨B, 0, none⟩) lB).trans cB
  have lq := lt_of_cell q0
  have HIV := Lib.hid (HI.out.off (S := fun _ => False) (Off.of_below hb0) (fun _ => False.elim))
  obtain ⟨A', c', w', hr1, hcB, hn, ho2, hg2⟩ := HIV.out.next (x := (ra, rb)) (g := V.heap.size) ((Below.refl V.heap.size V).alloc (Nat.le_refl _) (.cells #[.int .i64 ra, .int .i64 rb] 30))
    (fun j u hj => (Bx.new V 30 [Value.int .i64 ra, .int .i64 rb] (by simp)).c j u hj) hbr (fun k hk => hk.elim) (by omega) 53
  have fB : w'.frozen? ⟨B, 0, none⟩ = false := by have := hn.fz; rwa [World.frozen?_setCell] at this
  have lB' := lt_of_cell hcB
  have HN := Lib.hid hn
  have HO2 := Lib.hid ho2
  have HG2 := Lib.hid hg2
  have HB0 := Lib.hid hb0
  have HSZ := Lib.hid hsz
  obtain ⟨g3, hg3⟩ : ∃ g, w.heap.size = g := ⟨_, rfl⟩
  rw [hg3] at q0 q1 lq ⊢
  clear hn ho2 hg2 hb0 hsz HIV hg3
  go_wp2_with (at_builtin; go_must (refine wpList_append_run rfl (.tmp 6) (.tmp 8) 53 rfl _ _ rfl rfl hr1 ?_))
  go_ret
  refine ⟨rvO elR B (a ++ [(ra, rb)]) A' (a ++ [(ra, rb)]).length c', rfl, ⟨A', c', HN.out, fun k => Iff.rfl⟩, ((Off.of_below HB0.out).mono (fun _ => False.elim)).trans (HO2.out.mono fun k e => (HO.out k).2 e), fun k e => ?_⟩
  rcases HG2.out k e with e | e | e
  · exact .inl ((HO.out k).2 e)
  · exact e.elim
  · have := HSZ.out
    exact .inr (by omega)
/-- What Nodes hands to the walk. -/
def visN (B : Nat) : Vis cbN where
  gf := 31
  lb := #[.pointer (some ⟨B, 0, none⟩)]
  ent := ent_fn Try.func31 (by kernel_rfl) rfl
  Iv := ivN B
  Rdy := fun a n => a.length + n ≤ 33554432
  mono := fun a n m h hm => by omega
  step := fun a r x n h h2 => by simp only [cbN, List.length_append, List.length_cons, List.length_nil]; omega
  off := fun {S O w w' a} h ho hs => h.off ho hs
  lt := fun {O w a k} h hk => h.lt hk
  call := fun {w O a X x vv vl} r h hr hok hbr hn hX hv => nodes1_any r h hr hbr
end Go.Proofs.Ytgkdggidgaifhaa
