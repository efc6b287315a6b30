/- region: the sort of joined. -/
import Derived.Test.YtlhfjaagkgengaaGreatRgFZ
import Derived.Sort.Grow
import Derived.Lib.SliceRun
import Derived.Shelf.SlSortCmp.NoneTotal
import Derived.Shelf.Lay
import Derived.Ground.SlsfProg
namespace Go.Proofs
open Go.Shelf
shelf_lay_g SlLaysF0.n6 Slsf 6 at Tryz 169 as Tryz.sortG
end Go.Proofs
namespace Go.Proofs.YtlhfjaagkgengaaGreat
open Go.Shelf Go.RowKit Go.Lib Go.Sort
set_option linter.unusedVariables false
set_option linter.unusedSimpArgs false
/-- A world that has grown, and drawn. -/
def GrW (W w' : World) : Prop := ∃ q os', w' = grow (W.drewN q) os'
theorem GrW.refl (W : World) : GrW W W := ⟨0, #[], by rw [grow_empty]; rfl⟩
theorem GrW.drew {W w' : World} (h : GrW W w') : GrW W w'.drew := by
  obtain ⟨q, os, rfl⟩ := h
  exact ⟨q + 1, os, rfl⟩
theorem GrW.alloc {W w' : World} (h : GrW W w') (o : Obj) : GrW W (w'.alloc o) := by
  obtain ⟨q, os, rfl⟩ := h
  exact ⟨q, os ++ #[o], by rw [alloc_eq_grow, grow_grow]⟩
theorem subG_any (x y : Rg) (W : World) (hw : IntKind.i64.wrap (x.lo - y.lo) = x.lo - y.lo) : Calls Tryz.prog 170 #[.agg x.cells.toArray, .agg y.cells.toArray] W fun e w' => e = .returned (.int .i64 (x.lo - y.lo)) ∧ GrW W w' := by
  obtain ⟨xa, xb, xp⟩ := x
  obtain ⟨ya, yb, yp⟩ := y
  have HG : Hid (GrW W ((W.alloc (.cells #[.int .i64 xa, .int .i64 xb, .int .i64 xp] 62)).alloc (.cells #[.int .i64 ya, .int .i64 yb, .int .i64 yp] 62))) := Lib.hid (((GrW.refl W).alloc _).alloc _)
  simp only at hw
  simp only [Rg.cells, List.toArray]
  go_enter Tryz.func170, Tryz.ntmps170
  go_upto_region 1 with (fail)
  refine wp_forget (fun V => GrW W V ∧ Rg3 V W.heap.size xa xb xp ∧ Rg3 V (W.heap.size + 1) ya yb yp) ?_ ?_
  · have g1 := Rg3.new W xa xb xp 62
    have s1 : (W.alloc (.cells #[.int .i64 xa, .int .i64 xb, .int .i64 xp] 62)).heap.size = W.heap.size + 1 := by simp
    refine ⟨HG.out, ?_⟩
    generalize W.alloc (.cells #[.int .i64 xa, .int .i64 xb, .int .i64 xp] 62) = W1 at *
    have b2 : Below W1.heap.size W1 (W1.alloc (.cells #[.int .i64 ya, .int .i64 yb, .int .i64 yp] 62)) := (Below.refl _ _).alloc (Nat.le_refl _) _
    have g2 := Rg3.new W1 ya yb yp 62
    rw [s1] at g2
    exact ⟨g1.up b2, g2⟩
  rintro V ⟨hg, k1, k2⟩
  have HG2 := Lib.hid hg
  have a0 := k1.c0
  have b0 := k2.c0
  have la := lt_of_cell a0
  have lb := lt_of_cell b0
  clear hg k1 k2 HG
  go_wp2
  go_ret
  exact ⟨rfl, HG2.out⟩
/-- Such regions as a sort of them is sure of. -/
structure RgDist (L : List Rg) : Prop where
  in_ : ∀ x ∈ L, 0 ≤ x.lo ∧ x.lo ≤ 1073741824
  dist : ∀ x ∈ L, ∀ y ∈ L, x.lo = y.lo → x = y
def leG (x y : Rg) : Bool := decide (x.lo ≤ y.lo)
def sortG (L : List Rg) : List Rg := L.mergeSort leG
abbrev SubG (L : List Rg) := {x : Rg // x ∈ L}
def ordG {L : List Rg} (x y : SubG L) : Int := x.1.lo - y.1.lo
def encG {L : List Rg} (x : SubG L) : List Value := x.1.cells
theorem lt_ordG {L : List Rg} (x y : SubG L) : ltOf ordG x y = decide (x.1.lo < y.1.lo) := by
  unfold ltOf ordG
  by_cases h : x.1.lo < y.1.lo
  · rw [decide_eq_true h]; exact decide_eq_true (by omega)
  · rw [decide_eq_false h]; exact decide_eq_false (by omega)
theorem swoG {L : List Rg} : SWO (ltOf (ordG (L := L))) where
  irrefl x := by rw [lt_ordG]; simp
  trans x y z h1 h2 := by rw [lt_ordG] at *; simp at *; omega
  ntrans x y z h1 h2 := by rw [lt_ordG] at *; simp at *; omega
theorem totG {L : List Rg} (hL : RgDist L) (x y : SubG L) (h1 : ltOf ordG x y = false) (h2 : ltOf ordG y x = false) : x = y := by
  rw [lt_ordG] at *
  simp at *
  exact Subtype.ext (hL.dist x.1 x.2 y.1 y.2 (by omega))
theorem cmpG {L : List Rg} [Inhabited (SubG L)] (hL : RgDist L) (blk off size : Nat) (w : World) : CmpLays Tryz.prog 170 #[] (encG (L := L)) 3 ordG blk off size w :=
  fun _ _ _ _ x y => subG_any x.1 y.1 _ (by have h1 := hL.in_ _ x.2; have h2 := hL.in_ _ y.2; rw [IntWalk.i64_in _ (by omega)])
theorem map_sortG {L : List Rg} (d : List (SubG L)) : (d.mergeSort fun x y => !(ltOf ordG) y x).map (·.1) = sortG (d.map (·.1)) := by
  unfold sortG
  refine List.map_mergeSort fun a _ b _ => ?_
  rw [lt_ordG]
  unfold leG
  by_cases h : a.1.lo ≤ b.1.lo
  · rw [decide_eq_true h, decide_eq_false (by omega)]; rfl
  · rw [decide_eq_false h, decide_eq_true (by omega)]; rfl
theorem off_putRow (w : World) (G o : Nat) (F : Array Value) : Off (· = G) w (putRow id w G o F) := by
  unfold putRow mapBlock
  exact ⟨rfl, rfl, rfl, by simp, fun k hk hn => by simp [Array.getElem?_modify, Ne.symm hn]⟩
theorem off_grow (w : World) (os : Array Obj) : Off (fun _ => False) w (grow w os) := ⟨rfl, rfl, rfl, by simp [grow], fun k hk _ => by simp [grow, Array.getElem?_append, hk]⟩
theorem sortG_none (w : World) (A : Option Addr) (c : Nat) : Calls Tryz.prog 169 #[.slice A 0 c, .func (.func 170) #[] #[]] w fun e w' => e = .returned (.tuple #[]) ∧ w' = w :=
  AnyF.slices_SortFunc_none (P := Tryz.prog) (ρ := Tryz.sortG_ren) Tryz.sortG A c (.func (.func 170) #[] #[]) w
section
variable {L : List Rg} [Inhabited (SubG L)]
theorem holdsG {B : Nat} {w : World} {G n c : Nat} (h : OwG B w (.slice (some ⟨G, 0, none⟩) n c) L) : HoldsK (encG (L := L)) 3 w G 0 L.attach.toArray := fun t ht => by
  have hn : n = L.length := by obtain ⟨A, c', e, _⟩ := h.form; cases e; rfl
  subst hn
  have ht' : t < L.length * 3 := by simpa using ht
  rw [get_flatK _ _ _ t (by simpa using ht')]
  obtain ⟨x, hx⟩ : ∃ x, L[t / 3]? = some x := ⟨_, List.getElem?_eq_getElem (by omega)⟩
  have e : (L.attach.toArray[t / 3]!).1 = x := by
    rw [getElem!_pos L.attach.toArray (t / 3) (by simp; omega)]
    have := (List.getElem?_eq_some_iff.1 hx).2
    simp [this]
  have ea : ∀ j, (⟨G, 0, none⟩ : Addr).add j = ⟨G, 0 + j, none⟩ := fun j => by unfold Addr.add; split <;> simp_all
  refine ⟨?_, World.ownsRow.frozenAt h _⟩
  obtain ⟨h0, h1, h2⟩ := rgC_at L _ x hx
  show _ = some ((encG _)[t % 3]!)
  unfold encG
  rw [e, ← ea]
  rcases (show t % 3 = 0 ∨ t % 3 = 1 ∨ t % 3 = 2 by omega) with k | k | k
  · rw [show t / 3 * 3 = t by omega] at h0; rw [k]; exact World.ownsRow.cells h (g := G) rfl _ _ h0
  · rw [show t / 3 * 3 + 1 = t by omega] at h1; rw [k]; exact World.ownsRow.cells h (g := G) rfl _ _ h1
  · rw [show t / 3 * 3 + 2 = t by omega] at h2; rw [k]; exact World.ownsRow.cells h (g := G) rfl _ _ h2
theorem rg_of_holds {w : World} {G : Nat} {d : List (SubG L)} (hG : G < w.heap.size) (h : HoldsK (encG (L := L)) 3 w G 0 d.toArray) : RgAt w (some ⟨G, 0, none⟩) (d.map (·.1)) := ⟨fun _ => ⟨G, 0, rfl, hG, fun i x hx => by
  rw [List.getElem?_map] at hx
  obtain ⟨y, hy, rfl⟩ := Option.map_eq_some_iff.1 hx
  have hi := (List.getElem?_eq_some_iff.1 hy).1
  have e : d.toArray[i]! = y := by
    rw [getElem!_pos d.toArray i (by simpa using hi)]
    have := (List.getElem?_eq_some_iff.1 hy).2
    simpa using this
  have h0 := (h (i * 3) (by simp; omega)).1
  have h1 := (h (i * 3 + 1) (by simp; omega)).1
  have h2 := (h (i * 3 + 2) (by simp; omega)).1
  rw [get_flatK _ _ _ _ (by simp; omega)] at h0 h1 h2
  rw [show i * 3 / 3 = i by omega, show i * 3 % 3 = 0 by omega, e] at h0
  rw [show (i * 3 + 1) / 3 = i by omega, show (i * 3 + 1) % 3 = 1 by omega, e] at h1
  rw [show (i * 3 + 2) / 3 = i by omega, show (i * 3 + 2) % 3 = 2 by omega, e] at h2
  exact ⟨h0, h1, h2⟩⟩⟩
theorem sort_worldG {B : Nat} {w : World} {G n c m : Nat} {d' : List (SubG L)} {os : Array Obj} (h : OwG B w (.slice (some ⟨G, 0, none⟩) n c) L) (hG : G < w.heap.size) (hs : d'.length = L.length) : RgAt (sortWorldK encG 3 w G 0 m d'.toArray os) (some ⟨G, 0, none⟩) (d'.map (·.1)) ∧ Off (· = G) w (sortWorldK encG 3 w G 0 m d'.toArray os) := by
  have h0 : HoldsK encG 3 (Sort.ahead w m) G 0 L.attach.toArray := holdsG h
  have h1 : Holds id (putRow id (Sort.ahead w m) G 0 (flatK encG 3 d'.toArray)) G 0 (flatK encG 3 d'.toArray) := holds_putRow id _ G 0 (flatK encG 3 L.attach.toArray) (flatK encG 3 d'.toArray) h0 (by simp [hs])
  have o1 : Off (· = G) w (putRow id (Sort.ahead w m) G 0 (flatK encG 3 d'.toArray)) := (show Off (· = G) w (Sort.ahead w m) from ⟨rfl, rfl, rfl, Nat.le_refl _, fun _ _ _ => rfl⟩).trans (off_putRow (Sort.ahead w m) G 0 _)
  have h2 := rg_of_holds (Nat.lt_of_lt_of_le hG o1.size) h1
  unfold sortWorldK putRowK
  exact ⟨h2.off (off_grow _ os) (fun _ => False.elim), o1.trans ((off_grow _ os).mono fun _ => False.elim)⟩
set_option maxHeartbeats 1000000 in
theorem sortG_some (w : World) {B G n c : Nat} (hL : OwG B w (.slice (some ⟨G, 0, none⟩) n c) L) (hd : RgDist L) (hn : n = L.length) (hsz : L.length ≤ 100000) :
    Calls Tryz.prog 169 #[.slice (some ⟨G, 0, none⟩) n c, .func (.func 170) #[] #[]] w fun e w' => e = .returned (.tuple #[]) ∧ RgAt w' (some ⟨G, 0, none⟩) (sortG L) ∧ Off (· = G) w w' := by
  have eg : ∀ args w, (callFunc 170 args).run Tryz.prog w = .ok (.enter 170 args) w := enters_of Tryz.func170 (by kernel_rfl) rfl
  have hG := (hL.lt (k := G) rfl).2
  have hcon := AnyQ.slices_SortFunc_total Tryz.sortG 3 (fun w => by kernel_rfl) (fun w => by kernel_rfl) (encG (L := L)) (fun _ => rfl) (fun x v hv => by simp [encG, Rg.cells] at hv; rcases hv with rfl | rfl | rfl <;> rfl) ordG swoG 170 #[] G 0 c L.attach.toArray w eg (cmpG hd G 0 _ w) (holdsG hL) hG (by simp; omega) (totG hd)
  rw [show L.attach.toArray.size = n by simp [hn]] at hcon
  refine hcon.mono ?_
  rintro e w' ⟨rfl, m, os, rfl⟩
  have h := sort_worldG (m := m) (os := os) (d' := L.attach.mergeSort fun x y => !(ltOf ordG) y x) hL hG (by simp)
  rw [map_sortG, List.attach_map_subtype_val] at h
  exact ⟨rfl, h⟩
end
/-- The sort of a row of one's own. -/
theorem sort_any (w : World) {B n c : Nat} {A : Option Addr} {L : List Rg} (hL : OwG B w (.slice A n c) L) (hd : RgDist L) (hsz : L.length ≤ 100000) :
    Calls Tryz.prog 169 #[.slice A n c, .func (.func 170) #[] #[]] w fun e w' => e = .returned (.tuple #[]) ∧ RgAt w' A (sortG L) ∧ Off (fun k => (Value.slice A n c).ownBlock = some k) w w' := by
  obtain ⟨A', c', e, _⟩ := hL.form
  cases e
  cases L with
  | nil =>
    refine (sortG_none w A c).mono ?_
    rintro e w' ⟨rfl, rfl⟩
    exact ⟨rfl, by unfold sortG; rw [List.mergeSort_nil]; exact RgAt.nil _ _, Off.refl _ _⟩
  | cons x M =>
    haveI : Inhabited (SubG (x :: M)) := ⟨⟨x, .head _⟩⟩
    obtain ⟨G, cap, hG, _⟩ := World.ownsRow.form hL (by simp)
    cases hG
    refine (sortG_some w hL hd rfl hsz).mono ?_
    rintro e w' ⟨rfl, h1, h2⟩
    exact ⟨rfl, h1, h2.mono fun k e => by show some G = some k; rw [e]⟩
end Go.Proofs.YtlhfjaagkgengaaGreat
