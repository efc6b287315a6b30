/- A row in a box that grows by append, whatever its elements are. -/
import Derived.Test.YtgkdggidgaifhaaMA
namespace Go.Proofs.Ytgkdggidgaifhaa
open Go.RowKit
set_option linter.unusedVariables false
set_option linter.unusedSimpArgs false

/-- What a row's elements are: their cells; the blocks that they lead to. -/
structure ElG (E : Type) where
  sl : TypeId
  el : TypeId
  i : TypeInfo
  z : Value
  bytes : Nat
  k : Nat
  ht : Try.prog.underlying sl = some (.slice el)
  hi : Try.prog.info? el = some i
  hz : i.zero = some z
  hsize : i.size = k
  hby : i.bytes = bytes
  hzs : z.cells.size = k
  hk : 0 < k ∧ k ≤ 64
  hb64 : bytes ≤ 512
  cells : E → List Value
  len : ∀ x, (cells x).length = k
  blk : E → Nat → Prop
  ok : World → E → Prop
  one : ∀ {w : World} {x : E}, ok w x → ∀ u ∈ cells x, u.oneCell' = true
  off : ∀ {S : Nat → Prop} {w w' : World} {x : E}, ok w x → Off S w w' → (∀ b, S b → ¬ blk x b) → ok w' x
  lt : ∀ {w : World} {x : E} {b : Nat}, ok w x → blk x b → b < w.heap.size
section
variable {E : Type} {F : ElG E}
def rwC (F : ElG E) (L : List E) : List Value := L.flatMap F.cells
def rwO (F : ElG E) (L : List E) (k : Nat) : Prop := ∃ x ∈ L, F.blk x k
theorem rwC_length (L : List E) : (rwC F L).length = L.length * F.k := by
  induction L with
  | nil => simp [rwC]
  | cons x L ih =>
    have h := F.len x
    simp only [rwC, List.flatMap_cons, List.length_append, List.length_cons] at ih ⊢
    rw [ih, h, Nat.succ_mul]
    omega
theorem rwC_at : ∀ (L : List E) (i : Nat) (x : E), L[i]? = some x → ∀ (j : Nat) (u : Value), (F.cells x)[j]? = some u → (rwC F L)[i * F.k + j]? = some u
  | [], i, x, h, j, u, hu => by simp at h
  | y :: L, 0, x, h, j, u, hu => by
    simp at h
    subst h
    simp only [rwC, List.flatMap_cons, Nat.zero_mul, Nat.zero_add]
    rw [List.getElem?_append_left (List.getElem?_eq_some_iff.1 hu).1]
    exact hu
  | y :: L, i + 1, x, h, j, u, hu => by
    rw [List.getElem?_cons_succ] at h
    have ih := rwC_at L i x h j u hu
    simp only [rwC, List.flatMap_cons] at ih ⊢
    have hl := F.len y
    rw [List.getElem?_append_right (by rw [hl, Nat.succ_mul]; omega), hl, show (i + 1) * F.k + j - F.k = i * F.k + j by rw [Nat.succ_mul]; omega]
    exact ih
theorem rwO_snoc {L : List E} {x : E} {k : Nat} : rwO F (L ++ [x]) k ↔ rwO F L k ∨ F.blk x k := by
  constructor
  · rintro ⟨y, hy, hk⟩
    rcases List.mem_append.1 hy with hy | hy
    · exact .inl ⟨y, hy, hk⟩
    · obtain rfl := List.mem_singleton.1 hy
      exact .inr hk
  · rintro (⟨y, hy, hk⟩ | hk)
    · exact ⟨y, List.mem_append_left _ hy, hk⟩
    · exact ⟨x, by simp, hk⟩
/-- The row's box, the row, what its elements lead to. -/
structure RwIv (F : ElG E) (B0 B : Nat) (w : World) (L : List E) (A : Option Addr) (c : Nat) : Prop where
  box : w.cell? ⟨B, 0, none⟩ = some (.slice A L.length c)
  fz : w.frozen? ⟨B, 0, none⟩ = false
  row : w.ownsRow B0 F.el F.k (.slice A L.length c) L.length (rwC F L)
  ok : ∀ x ∈ L, F.ok w x
  le : B0 ≤ w.heap.size
  nB : (Value.slice A L.length c).ownBlock ≠ some B ∧ ¬ rwO F L B
  nR : ∀ k, (Value.slice A L.length c).ownBlock = some k → ¬ rwO F L k
def rvO (F : ElG E) (B : Nat) (L : List E) (A : Option Addr) (n c : Nat) : Nat → Prop := fun k => k = B ∨ (Value.slice A n c).ownBlock = some k ∨ rwO F L k
variable {B0 B c : Nat} {w w' wa : World} {L : List E} {A : Option Addr} {S : Nat → Prop}
theorem RwIv.off (h : RwIv F B0 B w L A c) (ho : Off S w w') (hs : ∀ k, S k → ¬ rvO F B L A L.length c k) : RwIv F B0 B w' L A c :=
  ⟨(ho.cell (p := ⟨B, 0, none⟩) (lt_of_cell h.box) (fun e => hs B e (.inl rfl))).trans h.box, (ho.frozen (p := ⟨B, 0, none⟩) (lt_of_cell h.box) (fun e => hs B e (.inl rfl))).trans h.fz,
    row3_off h.row ho (fun g hg e => hs g e (.inr (.inl hg))), fun x hx => F.off (h.ok x hx) ho (fun k hk e => hs k hk (.inr (.inr ⟨x, hx, e⟩))), Nat.le_trans h.le ho.size, h.nB, h.nR⟩
theorem RwIv.lt (h : RwIv F B0 B w L A c) {k : Nat} (hk : rvO F B L A L.length c k) : k < w.heap.size := by
  rcases hk with e | e | ⟨x, hx, e⟩
  · rw [e]; exact lt_of_cell h.box
  · exact (World.ownsRow.lt h.row k e).2
  · exact F.lt (h.ok x hx) e
theorem RwIv.next {x : E} {g : Nat} (h : RwIv F B0 B w L A c) (hb : Below w.heap.size w wa) (hc : ∀ (j : Nat) u, (F.cells x)[j]? = some u → wa.cell? ⟨g, j, none⟩ = some u) (hv : F.ok w x) (hn : ∀ k, F.blk x k → ¬ rvO F B L A L.length c k) (hlen : L.length ≤ 33554432) (ty : TypeId) :
    ∃ A' c' w', (Builtin.append_ #[F.sl, F.sl] ty #[.slice A L.length c, .slice (some ⟨g, 0, none⟩) 1 1]).run Try.prog wa = .ok (.slice A' (L.length + 1) c') w' ∧ w'.cell? ⟨B, 0, none⟩ = some (.slice A L.length c) ∧
      RwIv F B0 B (w'.setCell ⟨B, 0, none⟩ (.slice A' (L.length + 1) c')) (L ++ [x]) A' c' ∧ Off (rvO F B L A L.length c) w (w'.setCell ⟨B, 0, none⟩ (.slice A' (L.length + 1) c')) ∧ ∀ k, rvO F B (L ++ [x]) A' (L ++ [x]).length c' k → rvO F B L A L.length c k ∨ F.blk x k ∨ w.heap.size ≤ k := by
  have ha := h.off (S := fun _ => False) (Off.of_below hb) (fun _ => False.elim)
  have hva := F.off (S := fun _ => False) hv (Off.of_below hb) (fun _ => False.elim)
  have hsz := hb.size
  obtain ⟨v', w', hr, ho, hg, hat, A', c', rfl, hcap⟩ := run_appN (t := F.sl) F.ht F.hi F.hz F.hsize F.hby F.hzs F.hk F.hb64 ha.row (g := g) (xs := F.cells x) (F.len x) hc (F.one hv) ha.le hlen ty
  have hof := grown_off hg
  have hcB : w'.cell? ⟨B, 0, none⟩ = some (.slice A L.length c) := (hof.cell (p := ⟨B, 0, none⟩) (lt_of_cell ha.box) h.nB.1).trans ha.box
  have hfB : w'.frozen? ⟨B, 0, none⟩ = false := (hof.frozen (p := ⟨B, 0, none⟩) (lt_of_cell ha.box) h.nB.1).trans ha.fz
  have oB : Off (· = B) w' (w'.setCell ⟨B, 0, none⟩ (.slice A' (L.length + 1) c')) := (Off.refl (· = B) w').setCell (p := ⟨B, 0, none⟩) rfl _
  have lenE : (L ++ [x]).length = L.length + 1 := by simp
  have hown : ∀ k, (Value.slice A' (L.length + 1) c').ownBlock = some k → (Value.slice A L.length c).ownBlock = some k ∨ k = wa.heap.size := fun k e => by
    rcases hat with e2 | e2
    · exact .inl (by rw [← e2]; exact e)
    · rw [e2] at e; injection e with e; exact .inr e.symm
  have hBlt := lt_of_cell h.box
  have hnew : ∀ k, F.blk x k → k < w.heap.size := fun k hk => F.lt hv hk
  have nB1 : (Value.slice A' (L.length + 1) c').ownBlock ≠ some B := fun e => by
    rcases hown B e with e2 | e2
    · exact h.nB.1 e2
    · omega
  have hok : ∀ y ∈ L, F.ok w' y := fun y hy => F.off (ha.ok y hy) hof (fun k hk e => h.nR k hk ⟨y, hy, e⟩)
  have hsv : F.ok w' x := F.off hva hof (fun k hk e => hn k e (.inr (.inl hk)))
  refine ⟨A', c', w', hr, hcB, ⟨by rw [lenE]; exact World.cell?_setCell_same _ _ _ hcB, (World.frozen?_setCell _ _ _ _).trans hfB, ?_, ?_, by have := ha.le; have := hg.size; have := oB.size; omega, ⟨by rw [lenE]; exact nB1, fun e => ?_⟩, fun k hk e => ?_⟩, ?_, fun k hk => ?_⟩
  · rw [lenE, show rwC F (L ++ [x]) = rwC F L ++ F.cells x by simp [rwC]]
    exact row3_off ho oB (fun g hg e => nB1 (by rw [hg, e]))
  · intro y hy
    rcases List.mem_append.1 hy with hy | hy
    · exact F.off (hok y hy) oB (fun k hk e => h.nB.2 ⟨y, hy, by rw [← hk]; exact e⟩)
    · obtain rfl := List.mem_singleton.1 hy
      exact F.off hsv oB (fun k hk e => hn k e (.inl hk))
  · rcases rwO_snoc.1 e with e | e
    · exact h.nB.2 e
    · exact hn B e (.inl rfl)
  · rw [lenE] at hk
    rcases hown k hk with e2 | e2
    · rcases rwO_snoc.1 e with e | e
      · exact h.nR k e2 e
      · exact hn k e (.inr (.inl e2))
    · rcases rwO_snoc.1 e with ⟨y, hy, e⟩ | e
      · have := F.lt (h.ok y hy) e; omega
      · have := hnew k e; omega
  · exact ((Off.of_below hb).mono (S' := rvO F B L A L.length c) (fun _ => False.elim)).trans ((hof.mono fun k e => .inr (.inl e)).trans (oB.mono fun k e => .inl e))
  · rw [lenE] at hk
    rcases hk with e | e | e
    · exact .inl (.inl e)
    · rcases hown k e with e2 | e2
      · exact .inl (.inr (.inl e2))
      · exact .inr (.inr (by omega))
    · rcases rwO_snoc.1 e with e | e
      · exact .inl (.inr (.inr e))
      · exact .inr (.inl e)
/-- A row in memory, to be read. -/
structure LgAt (F : ElG E) (w : World) (A : Option Addr) (L : List E) : Prop where
  ok : ∀ x ∈ L, F.ok w x
  at_ : 0 < L.length → ∃ g o, A = some ⟨g, o, none⟩ ∧ g < w.heap.size ∧ ∀ (i : Nat) (x : E), L[i]? = some x → ∀ (j : Nat) (u : Value), (F.cells x)[j]? = some u → w.cell? ⟨g, o + i * F.k + j, none⟩ = some u
def lgO (F : ElG E) (A : Option Addr) (L : List E) (k : Nat) : Prop := (0 < L.length ∧ ∃ o, A = some ⟨k, o, none⟩) ∨ rwO F L k
theorem LgAt.off {S : Nat → Prop} {w w' : World} (h : LgAt F w A L) (ho : Off S w w') (hs : ∀ k, S k → ¬ lgO F A L k) : LgAt F w' A L :=
  ⟨fun x hx => F.off (h.ok x hx) ho (fun k hk e => hs k hk (.inr ⟨x, hx, e⟩)), fun hp => by
    obtain ⟨g, o, rfl, hg, hc⟩ := h.at_ hp
    have hng : ¬ S g := fun e => hs g e (.inl ⟨hp, o, rfl⟩)
    exact ⟨g, o, rfl, Nat.lt_of_lt_of_le hg ho.size, fun i x hx j u hu => (ho.cell (p := ⟨g, _, none⟩) hg hng).trans (hc i x hx j u hu)⟩⟩
theorem RwIv.ls (h : RwIv F B0 B w L A c) : LgAt F w A L ∧ ∀ k, lgO F A L k → rvO F B L A L.length c k := by
  refine ⟨⟨h.ok, fun hp => ?_⟩, fun k hk => ?_⟩
  · obtain ⟨G, cap, hG, hcap, _⟩ := World.ownsRow.form h.row hp
    have hlt := World.ownsRow.lt h.row
    have hrow := h.row
    rw [hG] at hlt
    cases hG
    refine ⟨G, 0, rfl, (hlt G rfl).2, fun i x hx j u hu => ?_⟩
    have e : ∀ j, (⟨G, 0, none⟩ : Addr).add j = ⟨G, j, none⟩ := fun j => by unfold Addr.add; split <;> simp_all
    have c0 := World.ownsRow.cells hrow (g := G) rfl _ _ (rwC_at L i x hx j u hu)
    rw [e] at c0
    rw [Nat.zero_add]
    exact c0
  · rcases hk with ⟨hp, o, rfl⟩ | e
    · exact .inr (.inl rfl)
    · exact .inr (.inr e)
end
end Go.Proofs.Ytgkdggidgaifhaa
