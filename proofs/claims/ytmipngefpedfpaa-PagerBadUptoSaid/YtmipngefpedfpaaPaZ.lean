/- A pager in memory. -/
import Derived.Test.YtmipngefpedfpaaMS
namespace Go.Proofs.Ytmipngefpedfpaa
open Go.RowKit Go.Maps
set_option linter.unusedVariables false
set_option linter.unusedSimpArgs false

def intOfV : Value → Option Int
  | .int .i64 k => some k
  | _ => none
theorem intOfV_inv {v : Value} {k : Int} (h : intOfV v = some k) : v = .int .i64 k := by
  unfold intOfV at h
  split at h
  · cases h; rfl
  · cases h
theorem intKeyed : Keyed Try.prog 3 := int_keyed Try.underlying3
theorem int_wf {k : Int} (h : -9223372036854775808 ≤ k ∧ k ≤ 9223372036854775807) : (Lit.int .i64 k).wf = true := by simpa [Lit.wf, IntKind.min, IntKind.max, IntKind.signed, IntKind.bits] using h
/-- A page. -/
structure Pg where
  X : Nat
  bb : Option (Nat × Nat × Bytes)
  at_ : Int × Int
  put : Bool
  zero : Bool
  uses : Int
def Pg.bv (x : Pg) : Value := match x.bb with
  | none => .slice none 0 0
  | some (B, c, L) => .slice (some ⟨B, 0, none⟩) L.length c
def Pg.blk (x : Pg) (k : Nat) : Prop := k = x.X ∨ ∃ c L, x.bb = some (k, c, L)
theorem Pg.bv_slice (x : Pg) : ∃ A n c, x.bv = .slice A n c := by
  unfold Pg.bv
  split <;> exact ⟨_, _, _, rfl⟩
structure ByAt (w : World) (z B c : Nat) (L : Bytes) : Prop where
  len : L.length = z
  cap : z ≤ c
  sby : SBy w (some ⟨B, 0, none⟩) z L
  fz : ∀ k, w.frozen? ⟨B, k, none⟩ = false
  row : ∃ cur t, w.heap[B]? = some (.cells cur t (0, 0)) ∧ z ≤ cur.size
structure PgAt (w : World) (z : Nat) (x : Pg) : Prop where
  c0 : w.cell? ⟨x.X, 0, none⟩ = some x.bv
  c1 : w.cell? ⟨x.X, 1, none⟩ = some (.int .i64 x.at_.1)
  c2 : w.cell? ⟨x.X, 2, none⟩ = some (.int .i64 x.at_.2)
  c3 : w.cell? ⟨x.X, 3, none⟩ = some (.bool x.put)
  c4 : w.cell? ⟨x.X, 4, none⟩ = some (.bool x.zero)
  c5 : w.cell? ⟨x.X, 5, none⟩ = some (.int .i64 x.uses)
  fz : ∀ k, w.frozen? ⟨x.X, k, none⟩ = false
  bs : ∀ B c L, x.bb = some (B, c, L) → ByAt w z B c L
structure PSt (σ : Type) where
  F : Nat → Fr
  h : Nat
  g : Int → Option Nat
  c : Nat
  pm : Int → Option Pg
  cm : Nat
  nx : Nat
  hole : Option Int
  O : Nat → Prop
  s : σ
structure PD where
  Q : Nat
  Pb : Nat
  B : Nat
  Mp : Nat
  Mm : Nat
  n : Nat
  z : Nat
def pgF (m : Int → Option Pg) (v : Value) : Option Value := (intOfV v).bind fun k => (m k).map fun x => .pointer (some ⟨x.X, 0, none⟩)
def visP (pm : Int → Option Pg) (hole : Option Int) : Int → Option Pg := fun k => if some k = hole then none else pm k
def updP (pm : Int → Option Pg) (id : Int) (x : Option Pg) : Int → Option Pg := fun k => if k = id then x else pm k
def ownP (d : PD) (pm : Int → Option Pg) (k : Nat) : Prop := k = d.Q ∨ k = d.Pb ∨ k = d.B ∨ k = d.Mp ∨ k = d.Mm ∨ ∃ i x, pm i = some x ∧ x.blk k
structure PgrAt {σ : Type} {K : SnkF σ} (M : Snk K) (w : World) (d : PD) (t : PSt σ) : Prop where
  q0 : w.cell? ⟨d.Q, 0, none⟩ = some (.pointer (some ⟨d.Pb, 0, none⟩))
  q1 : w.cell? ⟨d.Q, 1, none⟩ = some (.int .i64 (d.z : Nat))
  q2 : w.cell? ⟨d.Q, 2, none⟩ = some (.int .i64 (d.n : Nat))
  q3 : w.cell? ⟨d.Q, 3, none⟩ = some (.iface M.T (.pointer M.p))
  q4 : w.cell? ⟨d.Q, 4, none⟩ = some (.map (some d.Mm))
  q5 : w.cell? ⟨d.Q, 5, none⟩ = some (.int .i64 (t.nx : Nat))
  qz : ∀ k, w.frozen? ⟨d.Q, k, none⟩ = false
  pool : PoolAt w d.Pb d.B d.Mp d.n t.F t.h t.g t.c
  mp : MapIs Try.prog 3 w d.Mm (pgF (visP t.pm t.hole)) t.cm
  pg : ∀ i x, t.pm i = some x → PgAt w d.z x
  at_ : M.At w t.O t.s
  nO : ∀ k, ownP d t.pm k → ¬ t.O k
  inj : ∀ i j x y k, t.pm i = some x → t.pm j = some y → x.blk k → y.blk k → i = j
  neM : d.Mp ≠ d.Mm
  zs : 16 ≤ d.z ∧ d.z ≤ 4096
theorem ByAt.cell {w : World} {z B c : Nat} {L : Bytes} (h : ByAt w z B c L) (hz : 16 ≤ z) : ∃ v : Nat, w.cell? ⟨B, 0, none⟩ = some (.int .u8 (v : Nat)) := by
  obtain ⟨b, o, e, _, hc⟩ := h.sby.2 (by omega)
  cases e
  exact ⟨_, hc 0 (by omega)⟩
theorem ByAt.lt {w : World} {z B c : Nat} {L : Bytes} (h : ByAt w z B c L) (hz : 16 ≤ z) : B < w.heap.size := by
  obtain ⟨v, hv⟩ := h.cell hz
  exact lt_of_cell hv
theorem ByAt.off {S : Nat → Prop} {w w' : World} {z B c : Nat} {L : Bytes} (h : ByAt w z B c L) (hz : 16 ≤ z) (ho : Off S w w') (hB : ¬ S B) : ByAt w' z B c L :=
  ⟨h.len, h.cap, h.sby.off ho (fun k o e => by cases e; exact hB), fun k => (ho.frozen (p := ⟨B, k, none⟩) (h.lt hz) hB).trans (h.fz k), by
    obtain ⟨cur, t, e, hs⟩ := h.row
    exact ⟨cur, t, (ho.block B (h.lt hz) hB).trans e, hs⟩⟩
theorem PgAt.lt {w : World} {z : Nat} {x : Pg} (h : PgAt w z x) : x.X < w.heap.size := lt_of_cell h.c0
theorem PgAt.off {S : Nat → Prop} {w w' : World} {z : Nat} {x : Pg} (h : PgAt w z x) (hz : 16 ≤ z) (ho : Off S w w') (hS : ∀ k, x.blk k → ¬ S k) : PgAt w' z x := by
  have hX := hS x.X (.inl rfl)
  have hl := h.lt
  exact ⟨(ho.cell (p := ⟨x.X, 0, none⟩) hl hX).trans h.c0, (ho.cell (p := ⟨x.X, 1, none⟩) hl hX).trans h.c1, (ho.cell (p := ⟨x.X, 2, none⟩) hl hX).trans h.c2, (ho.cell (p := ⟨x.X, 3, none⟩) hl hX).trans h.c3, (ho.cell (p := ⟨x.X, 4, none⟩) hl hX).trans h.c4, (ho.cell (p := ⟨x.X, 5, none⟩) hl hX).trans h.c5,
    fun k => (ho.frozen (p := ⟨x.X, k, none⟩) hl hX).trans (h.fz k), fun B c L e => (h.bs B c L e).off hz ho (hS B (.inr ⟨c, L, e⟩))⟩
theorem PgAt.blk_lt {w : World} {z : Nat} {x : Pg} (h : PgAt w z x) (hz : 16 ≤ z) {k : Nat} (hk : x.blk k) : k < w.heap.size := by
  rcases hk with rfl | ⟨c, L, e⟩
  · exact h.lt
  · exact (h.bs k c L e).lt hz
/-- A page's own bytes lie apart from its own block. -/
theorem PgAt.self {w : World} {z : Nat} {x : Pg} (h : PgAt w z x) (hz : 16 ≤ z) {B c : Nat} {L : Bytes} (e : x.bb = some (B, c, L)) : B ≠ x.X := fun e2 => by
  obtain ⟨v, hv⟩ := (h.bs B c L e).cell hz
  have := h.c0
  rw [← e2, hv] at this
  obtain ⟨A, n, c', hs⟩ := x.bv_slice
  rw [hs] at this
  cases this
theorem pgF_at (m : Int → Option Pg) (k : Int) : pgF m (.int .i64 k) = (m k).map fun x => .pointer (some ⟨x.X, 0, none⟩) := rfl
theorem pgF_congr {m m' : Int → Option Pg} (h : ∀ k, (m k).map Pg.X = (m' k).map Pg.X) : pgF m = pgF m' := by
  funext v
  unfold pgF
  cases intOfV v with
  | none => rfl
  | some k =>
    have := h k
    simp only [Option.bind_some]
    cases h1 : m k <;> cases h2 : m' k <;> simp_all
theorem pgF_put (m : Int → Option Pg) (k : Int) (x : Pg) : putK (pgF m) (.int .i64 k) (.pointer (some ⟨x.X, 0, none⟩)) = pgF (updP m k (some x)) := by
  funext v
  unfold putK
  split
  · rename_i h; subst h; simp [pgF, intOfV, updP]
  · rename_i h
    unfold pgF
    cases hn : intOfV v with
    | none => rfl
    | some j =>
      have hjk : j ≠ k := fun e => h (by rw [intOfV_inv hn, e])
      simp [updP, hjk]
theorem pgF_del (m : Int → Option Pg) (k : Int) : delK (pgF m) (.int .i64 k) = pgF (updP m k none) := by
  funext v
  unfold delK
  split
  · rename_i h; subst h; simp [pgF, intOfV, updP]
  · rename_i h
    unfold pgF
    cases hn : intOfV v with
    | none => rfl
    | some j =>
      have hjk : j ≠ k := fun e => h (by rw [intOfV_inv hn, e])
      simp [updP, hjk]
section
variable {σ : Type} {K : SnkF σ} {M : Snk K} {w w' : World} {d : PD} {t : PSt σ}
theorem PgrAt.ltQ (h : PgrAt M w d t) : d.Q < w.heap.size := lt_of_cell h.q0
theorem PgrAt.own_lt (h : PgrAt M w d t) {k : Nat} (hk : ownP d t.pm k) : k < w.heap.size := by
  rcases hk with rfl | rfl | rfl | rfl | rfl | ⟨i, x, hx, hb⟩
  · exact h.ltQ
  · exact h.pool.ltP
  · exact h.pool.ltB
  · exact h.pool.ltM
  · exact h.mp.lt
  · exact (h.pg i x hx).blk_lt h.zs.1 hb
theorem PgrAt.neQ (h : PgrAt M w d t) : d.Q ≠ d.Pb ∧ d.Q ≠ d.B ∧ d.Q ≠ d.Mp ∧ d.Q ≠ d.Mm ∧ d.Pb ≠ d.Mm ∧ d.B ≠ d.Mm := by
  refine ⟨fun e => ?_, fun e => ?_, fun e => ?_, fun e => ?_, fun e => ?_, fun e => ?_⟩
  · have := h.q0; rw [e, h.pool.l0] at this; cases this
  · have := h.q0; have h2 := (h.pool.fr 0 h.pool.pos).c0; rw [Nat.zero_mul] at h2; rw [e, h2] at this; cases this
  · have := h.q0; rw [e, h.pool.mp.no_cell] at this; cases this
  · have := h.q0; rw [e, h.mp.no_cell] at this; cases this
  · have := h.pool.l0; rw [e, h.mp.no_cell] at this; cases this
  · have h2 := (h.pool.fr 0 h.pool.pos).c0; rw [e, h.mp.no_cell] at h2; cases h2
/-- A page's blocks are no others'. -/
theorem PgrAt.neX (h : PgrAt M w d t) {i : Int} {x : Pg} (hx : t.pm i = some x) {k : Nat} (hk : x.blk k) : k ≠ d.Q ∧ k ≠ d.Pb ∧ k ≠ d.B ∧ k ≠ d.Mp ∧ k ≠ d.Mm := by
  have hp := h.pg i x hx
  obtain ⟨A, n, c', hs⟩ := x.bv_slice
  rcases hk with rfl | ⟨c, L, e⟩
  · have h0 := hp.c0
    have h1 := hp.c1
    rw [hs] at h0
    refine ⟨fun e => ?_, fun e => ?_, fun e => ?_, fun e => ?_, fun e => ?_⟩
    · rw [e, h.q0] at h0; cases h0
    · rw [e, h.pool.l1] at h1; cases h1
    · have h2 := (h.pool.fr 0 h.pool.pos).c0; rw [Nat.zero_mul] at h2; rw [e, h2] at h0; cases h0
    · rw [e, h.pool.mp.no_cell] at h0; cases h0
    · rw [e, h.mp.no_cell] at h0; cases h0
  · obtain ⟨v, hv⟩ := (hp.bs k c L e).cell h.zs.1
    refine ⟨fun e => ?_, fun e => ?_, fun e => ?_, fun e => ?_, fun e => ?_⟩
    · rw [e, h.q0] at hv; cases hv
    · rw [e, h.pool.l0] at hv; cases hv
    · have h2 := (h.pool.fr 0 h.pool.pos).c0; rw [Nat.zero_mul] at h2; rw [e, h2] at hv; cases hv
    · rw [e, h.pool.mp.no_cell] at hv; cases hv
    · rw [e, h.mp.no_cell] at hv; cases hv
/-- Other blocks have changed: the sink's, new ones. -/
theorem PgrAt.off {S O' : Nat → Prop} {s' : σ} (h : PgrAt M w d t) (ho : Off S w w') (hS : ∀ k, ownP d t.pm k → ¬ S k) (ha : M.At w' O' s') (hO : ∀ k, O' k → t.O k ∨ w.heap.size ≤ k) : PgrAt M w' d { t with O := O', s := s' } := by
  have hQ := hS d.Q (.inl rfl)
  have hl := h.ltQ
  refine ⟨(ho.cell (p := ⟨d.Q, 0, none⟩) hl hQ).trans h.q0, (ho.cell (p := ⟨d.Q, 1, none⟩) hl hQ).trans h.q1, (ho.cell (p := ⟨d.Q, 2, none⟩) hl hQ).trans h.q2, (ho.cell (p := ⟨d.Q, 3, none⟩) hl hQ).trans h.q3, (ho.cell (p := ⟨d.Q, 4, none⟩) hl hQ).trans h.q4, (ho.cell (p := ⟨d.Q, 5, none⟩) hl hQ).trans h.q5,
    fun k => (ho.frozen (p := ⟨d.Q, k, none⟩) hl hQ).trans (h.qz k), h.pool.off ho (hS _ (.inr (.inl rfl))) (hS _ (.inr (.inr (.inl rfl)))) (hS _ (.inr (.inr (.inr (.inl rfl))))), h.mp.off ho (hS _ (.inr (.inr (.inr (.inr (.inl rfl)))))),
    fun i x hx => (h.pg i x hx).off h.zs.1 ho (fun k hk => hS k (.inr (.inr (.inr (.inr (.inr ⟨i, x, hx, hk⟩)))))), ha, fun k hk e => ?_, h.inj, h.neM, h.zs⟩
  rcases hO k e with e | e
  · exact h.nO k hk e
  · have := h.own_lt hk; omega
theorem PgrAt.up (h : PgrAt M w d t) (hb : Below w.heap.size w w') : PgrAt M w' d t := h.off (S := fun _ => False) (Off.of_below hb) (fun _ _ => id) (M.off h.at_ (Off.of_below (S := fun _ => False) hb) (fun _ h => h.elim)) (fun _ => .inl)
/-- The pool has changed. -/
theorem PgrAt.setPool {F' : Nat → Fr} {h' c' : Nat} {g' : Int → Option Nat} (h : PgrAt M w d t) (ho : Off (PB d.Pb d.B d.Mp) w w') (hp : PoolAt w' d.Pb d.B d.Mp d.n F' h' g' c') : PgrAt M w' d { t with F := F', h := h', g := g', c := c' } := by
  obtain ⟨n1, n2, n3, n4, n5, n6⟩ := h.neQ
  have hQ : ¬ PB d.Pb d.B d.Mp d.Q := fun e => by rcases e with e | e | e; exact n1 e; exact n2 e; exact n3 e
  have hM : ¬ PB d.Pb d.B d.Mp d.Mm := fun e => by rcases e with e | e | e; exact n5 e.symm; exact n6 e.symm; exact h.neM e.symm
  have hl := h.ltQ
  refine ⟨(ho.cell (p := ⟨d.Q, 0, none⟩) hl hQ).trans h.q0, (ho.cell (p := ⟨d.Q, 1, none⟩) hl hQ).trans h.q1, (ho.cell (p := ⟨d.Q, 2, none⟩) hl hQ).trans h.q2, (ho.cell (p := ⟨d.Q, 3, none⟩) hl hQ).trans h.q3, (ho.cell (p := ⟨d.Q, 4, none⟩) hl hQ).trans h.q4, (ho.cell (p := ⟨d.Q, 5, none⟩) hl hQ).trans h.q5,
    fun k => (ho.frozen (p := ⟨d.Q, k, none⟩) hl hQ).trans (h.qz k), hp, h.mp.off ho hM, fun i x hx => (h.pg i x hx).off h.zs.1 ho (fun k hk e => ?_), M.off h.at_ ho (fun k e => ?_), h.nO, h.inj, h.neM, h.zs⟩
  · obtain ⟨_, e2, e3, e4, _⟩ := h.neX hx hk
    rcases e with e | e | e
    · exact e2 e
    · exact e3 e
    · exact e4 e
  · rcases e with rfl | rfl | rfl
    · exact h.nO _ (.inr (.inl rfl))
    · exact h.nO _ (.inr (.inr (.inl rfl)))
    · exact h.nO _ (.inr (.inr (.inr (.inl rfl))))
theorem own_upd {pm : Int → Option Pg} {id : Int} {x x' : Pg} (hx : pm id = some x) {k : Nat} (hk : ownP d (updP pm id (some x')) k) : ownP d pm k ∨ x'.blk k := by
  rcases hk with e | e | e | e | e | ⟨i, y, hy, hb⟩
  · exact .inl (.inl e)
  · exact .inl (.inr (.inl e))
  · exact .inl (.inr (.inr (.inl e)))
  · exact .inl (.inr (.inr (.inr (.inl e))))
  · exact .inl (.inr (.inr (.inr (.inr (.inl e)))))
  · unfold updP at hy
    split at hy
    · cases hy; exact .inr hb
    · exact .inl (.inr (.inr (.inr (.inr (.inr ⟨i, y, hy, hb⟩)))))
/-- A page has changed. -/
theorem PgrAt.setPage {id : Int} {x x' : Pg} (h : PgrAt M w d t) (hx : t.pm id = some x) (hX : x'.X = x.X) (hblk : ∀ k, x'.blk k → x.blk k ∨ (¬ ownP d t.pm k ∧ ¬ t.O k)) (ho : Off x.blk w w') (hp : PgAt w' d.z x') : PgrAt M w' d { t with pm := updP t.pm id (some x') } := by
  have hown : ∀ k, x.blk k → ownP d t.pm k := fun k hk => .inr (.inr (.inr (.inr (.inr ⟨id, x, hx, hk⟩))))
  have hQ : ¬ x.blk d.Q := fun e => (h.neX hx e).1 rfl
  have hl := h.ltQ
  refine ⟨(ho.cell (p := ⟨d.Q, 0, none⟩) hl hQ).trans h.q0, (ho.cell (p := ⟨d.Q, 1, none⟩) hl hQ).trans h.q1, (ho.cell (p := ⟨d.Q, 2, none⟩) hl hQ).trans h.q2, (ho.cell (p := ⟨d.Q, 3, none⟩) hl hQ).trans h.q3, (ho.cell (p := ⟨d.Q, 4, none⟩) hl hQ).trans h.q4, (ho.cell (p := ⟨d.Q, 5, none⟩) hl hQ).trans h.q5,
    fun k => (ho.frozen (p := ⟨d.Q, k, none⟩) hl hQ).trans (h.qz k), h.pool.off ho (fun e => (h.neX hx e).2.1 rfl) (fun e => (h.neX hx e).2.2.1 rfl) (fun e => (h.neX hx e).2.2.2.1 rfl), ?_, fun i y hy => ?_, M.off h.at_ ho (fun k hk => h.nO k (hown k hk)), fun k hk => ?_, fun i j y1 y2 k e1 e2 b1 b2 => ?_, h.neM, h.zs⟩
  · have h1 := h.mp.off ho (fun e => (h.neX hx e).2.2.2.2 rfl)
    have e : pgF (visP (updP t.pm id (some x')) t.hole) = pgF (visP t.pm t.hole) := pgF_congr fun k => by
      unfold visP updP
      by_cases hk : some k = t.hole
      · rw [if_pos hk, if_pos hk]
      · rw [if_neg hk, if_neg hk]
        by_cases hk2 : k = id
        · rw [if_pos hk2, hk2, hx]; simp [hX]
        · rw [if_neg hk2]
    show MapIs _ _ _ _ (pgF (visP (updP t.pm id (some x')) t.hole)) _
    rw [e]
    exact h1
  · have hy' : (if i = id then some x' else t.pm i) = some y := hy
    by_cases hi : i = id
    · rw [if_pos hi] at hy'; cases hy'; exact hp
    · rw [if_neg hi] at hy'
      exact (h.pg i y hy').off h.zs.1 ho (fun k hk e => hi (h.inj i id y x k hy' hx hk e))
  · rcases own_upd hx hk with e | e
    · exact h.nO k e
    · rcases hblk k e with e | e
      · exact h.nO k (hown k e)
      · exact e.2
  · have e1' : (if i = id then some x' else t.pm i) = some y1 := e1
    have e2' : (if j = id then some x' else t.pm j) = some y2 := e2
    by_cases hi : i = id <;> by_cases hj : j = id
    · rw [hi, hj]
    · rw [if_pos hi] at e1'; rw [if_neg hj] at e2'
      cases e1'
      rcases hblk k b1 with e | e
      · exact hi.trans (h.inj id j x y2 k hx e2' e b2)
      · exact absurd (.inr (.inr (.inr (.inr (.inr ⟨j, y2, e2', b2⟩))))) e.1
    · rw [if_neg hi] at e1'; rw [if_pos hj] at e2'
      cases e2'
      rcases hblk k b2 with e | e
      · exact (h.inj i id y1 x k e1' hx b1 e).trans hj.symm
      · exact absurd (.inr (.inr (.inr (.inr (.inr ⟨i, y1, e1', b1⟩))))) e.1
    · rw [if_neg hi] at e1'; rw [if_neg hj] at e2'
      exact h.inj i j y1 y2 k e1' e2' b1 b2
/-- A page that nobody knows yet. -/
theorem PgrAt.virt {id : Int} {x : Pg} (h : PgrAt M w d t) (hh : t.hole = none) (hn : t.pm id = none) (hp : PgAt w d.z x) (hf : ∀ k, x.blk k → ¬ ownP d t.pm k ∧ ¬ t.O k) : PgrAt M w d { t with pm := updP t.pm id (some x), hole := some id } := by
  refine ⟨h.q0, h.q1, h.q2, h.q3, h.q4, h.q5, h.qz, h.pool, ?_, fun i y hy => ?_, h.at_, fun k hk => ?_, fun i j y1 y2 k e1 e2 b1 b2 => ?_, h.neM, h.zs⟩
  · have e : pgF (visP (updP t.pm id (some x)) (some id)) = pgF (visP t.pm t.hole) := pgF_congr fun k => by
      unfold visP updP
      rw [hh, if_neg (show ¬ some k = none from fun e => by cases e)]
      by_cases hk2 : k = id
      · rw [if_pos (by rw [hk2]), hk2, hn]
      · rw [if_neg (fun e => hk2 (Option.some.inj e)), if_neg hk2]
    show MapIs _ _ _ _ (pgF (visP (updP t.pm id (some x)) (some id))) _
    rw [e]
    exact h.mp
  · have hy' : (if i = id then some x else t.pm i) = some y := hy
    by_cases hi : i = id
    · rw [if_pos hi] at hy'; cases hy'; exact hp
    · rw [if_neg hi] at hy'; exact h.pg i y hy'
  · rcases hk with e | e | e | e | e | ⟨i, y, hy, hb⟩
    · exact h.nO k (.inl e)
    · exact h.nO k (.inr (.inl e))
    · exact h.nO k (.inr (.inr (.inl e)))
    · exact h.nO k (.inr (.inr (.inr (.inl e))))
    · exact h.nO k (.inr (.inr (.inr (.inr (.inl e)))))
    · have hy' : (if i = id then some x else t.pm i) = some y := hy
      by_cases hi : i = id
      · rw [if_pos hi] at hy'; cases hy'; exact (hf k hb).2
      · rw [if_neg hi] at hy'; exact h.nO k (.inr (.inr (.inr (.inr (.inr ⟨i, y, hy', hb⟩)))))
  · have e1' : (if i = id then some x else t.pm i) = some y1 := e1
    have e2' : (if j = id then some x else t.pm j) = some y2 := e2
    by_cases hi : i = id <;> by_cases hj : j = id
    · rw [hi, hj]
    · rw [if_pos hi] at e1'; rw [if_neg hj] at e2'
      cases e1'
      exact absurd (.inr (.inr (.inr (.inr (.inr ⟨j, y2, e2', b2⟩))))) (hf k b1).1
    · rw [if_neg hi] at e1'; rw [if_pos hj] at e2'
      cases e2'
      exact absurd (.inr (.inr (.inr (.inr (.inr ⟨i, y1, e1', b1⟩))))) (hf k b2).1
    · rw [if_neg hi] at e1'; rw [if_neg hj] at e2'
      exact h.inj i j y1 y2 k e1' e2' b1 b2
theorem own_new (h : PgrAt M w d t) {k : Nat} (hk : w.heap.size ≤ k) : ¬ ownP d t.pm k ∧ ¬ t.O k := ⟨fun e => by have := h.own_lt e; omega, fun e => by have := M.lt h.at_ e; omega⟩
/-- The map of pages alone has changed, and what it tells. -/
theorem PgrAt.setMap {pm' : Int → Option Pg} {hole' : Option Int} {c' : Nat} (h : PgrAt M w d t) (ho : Off (· = d.Mm) w w') (hm : MapIs Try.prog 3 w' d.Mm (pgF (visP pm' hole')) c') (hsub : ∀ k x, pm' k = some x → t.pm k = some x) : PgrAt M w' d { t with pm := pm', hole := hole', cm := c' } := by
  obtain ⟨n1, n2, n3, n4, n5, n6⟩ := h.neQ
  have hl := h.ltQ
  have hown : ∀ k, ownP d pm' k → ownP d t.pm k := fun k hk => by
    rcases hk with e | e | e | e | e | ⟨i, y, hy, hb⟩
    · exact .inl e
    · exact .inr (.inl e)
    · exact .inr (.inr (.inl e))
    · exact .inr (.inr (.inr (.inl e)))
    · exact .inr (.inr (.inr (.inr (.inl e))))
    · exact .inr (.inr (.inr (.inr (.inr ⟨i, y, hsub i y hy, hb⟩))))
  exact ⟨(ho.cell (p := ⟨d.Q, 0, none⟩) hl n4).trans h.q0, (ho.cell (p := ⟨d.Q, 1, none⟩) hl n4).trans h.q1, (ho.cell (p := ⟨d.Q, 2, none⟩) hl n4).trans h.q2, (ho.cell (p := ⟨d.Q, 3, none⟩) hl n4).trans h.q3, (ho.cell (p := ⟨d.Q, 4, none⟩) hl n4).trans h.q4, (ho.cell (p := ⟨d.Q, 5, none⟩) hl n4).trans h.q5,
    fun k => (ho.frozen (p := ⟨d.Q, k, none⟩) hl n4).trans (h.qz k), h.pool.off ho n5 n6 h.neM, hm, fun i x hx => (h.pg i x (hsub i x hx)).off h.zs.1 ho (fun k hk e => (h.neX (hsub i x hx) hk).2.2.2.2 e), M.off h.at_ ho (fun k e => by rw [e]; exact h.nO _ (.inr (.inr (.inr (.inr (.inl rfl)))))), fun k hk => h.nO k (hown k hk),
    fun i j x y k e1 e2 => h.inj i j x y k (hsub i x e1) (hsub j y e2), h.neM, h.zs⟩
/-- The next number. -/
theorem PgrAt.setNx (h : PgrAt M w d t) (nx : Nat) : PgrAt M (w.setCell ⟨d.Q, 5, none⟩ (.int .i64 (nx : Nat))) d { t with nx := nx } ∧ Off (· = d.Q) w (w.setCell ⟨d.Q, 5, none⟩ (.int .i64 (nx : Nat))) := by
  have ho : Off (· = d.Q) w (w.setCell ⟨d.Q, 5, none⟩ (.int .i64 (nx : Nat))) := (Off.refl (· = d.Q) w).setCell (p := ⟨d.Q, 5, none⟩) rfl _
  obtain ⟨n1, n2, n3, n4, n5, n6⟩ := h.neQ
  have oc : ∀ k, k ≠ 5 → (w.setCell ⟨d.Q, 5, none⟩ (.int .i64 (nx : Nat))).cell? ⟨d.Q, k, none⟩ = w.cell? ⟨d.Q, k, none⟩ := fun k hk => World.cell?_setCell_other _ _ _ _ (fun e => by injection e with _ e2; omega)
  refine ⟨⟨(oc 0 (by omega)).trans h.q0, (oc 1 (by omega)).trans h.q1, (oc 2 (by omega)).trans h.q2, (oc 3 (by omega)).trans h.q3, (oc 4 (by omega)).trans h.q4, World.cell?_setCell_same _ _ _ h.q5, fun k => (World.frozen?_setCell _ _ _ _).trans (h.qz k), h.pool.off ho (fun e => n1 e.symm) (fun e => n2 e.symm) (fun e => n3 e.symm), h.mp.off ho (fun e => n4 e.symm),
    fun i x hx => (h.pg i x hx).off h.zs.1 ho (fun k hk e => (h.neX hx hk).1 e), M.off h.at_ ho (fun k e => by rw [e]; exact h.nO _ (.inl rfl)), h.nO, h.inj, h.neM, h.zs⟩, ho⟩
end
end Go.Proofs.Ytmipngefpedfpaa
