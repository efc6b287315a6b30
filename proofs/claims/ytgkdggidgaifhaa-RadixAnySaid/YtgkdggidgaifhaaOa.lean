/- radix: a sink, by its contracts; the tree's get. -/
import Derived.Test.YtgkdggidgaifhaaNf
namespace Go.Proofs.Ytgkdggidgaifhaa
open Go.RowKit
set_option linter.unusedVariables false
set_option linter.unusedSimpArgs false

/-- What a sink tells and takes, plainly. -/
structure SnkF (σ : Type) where
  get : σ → Int × Int → σ × Bytes × Int
  put : σ → Bytes → σ × (Int × Int) × Int
  Rdy : σ → Nat → Prop
def Bd (a : Int × Int) : Prop := 0 ≤ a.1 ∧ a.1 ≤ 2147483647 ∧ 0 ≤ a.2 ∧ a.2 ≤ 2147483647
structure SnkF.Good {σ : Type} (K : SnkF σ) : Prop where
  mono : ∀ s n m, K.Rdy s n → m ≤ n → K.Rdy s m
  getR : ∀ s a n, K.Rdy s n → K.Rdy (K.get s a).1 n
  putR : ∀ s b n, K.Rdy s (n + 1) → b.length ≤ 5000 → K.Rdy (K.put s b).1 n
  getB : ∀ s a, K.Rdy s 0 → (K.get s a).2.2 = 0 → Bd a
  putB : ∀ s b, K.Rdy s 1 → b.length ≤ 5000 → (K.put s b).2.2 = 0 → Bd (K.put s b).2.1
/-- Get has answered. -/
def GePost {σ : Type} (At : World → (Nat → Prop) → σ → Prop) (K : SnkF σ) (w : World) (O : Nat → Prop) (s : σ) (a : Int × Int) (e : Ending) (w' : World) : Prop :=
  ∃ v, e = .returned (.tuple #[v, .int .i64 (K.get s a).2.2]) ∧ At w' O (K.get s a).1 ∧ Off O w w' ∧ SlA w' v (K.get s a).2.1 ∧ (∀ b o n c, v = .slice (some ⟨b, o, none⟩) n c → w.heap.size ≤ b) ∧ (K.get s a).2.1.length ≤ 2 ^ 40
/-- Put has answered. -/
def PuPost {σ : Type} (At : World → (Nat → Prop) → σ → Prop) (K : SnkF σ) (w : World) (O : Nat → Prop) (s : σ) (b : Bytes) (e : Ending) (w' : World) : Prop :=
  ∃ O' : Nat → Prop, e = .returned (.tuple #[addrV (K.put s b).2.1, .int .i64 (K.put s b).2.2]) ∧ At w' O' (K.put s b).1 ∧ Off O w w' ∧ ∀ k, O' k → O k ∨ w.heap.size ≤ k
/-- A sink in memory: its own blocks, its state. -/
structure Snk {σ : Type} (K : SnkF σ) where
  T : TypeId
  p : Option Addr
  fg : FuncId
  fp : FuncId
  nilG : ∀ n w, (nilAhead (n + 1) T (.pointer p) "Get").run Try.prog w = .ok (some false) w
  nilP : ∀ n w, (nilAhead (n + 1) T (.pointer p) "Put").run Try.prog w = .ok (some false) w
  metG : ∀ n w, (method (n + 1) T (.pointer p) "Get").run Try.prog w = .ok (fg, .pointer p) w
  metP : ∀ n w, (method (n + 1) T (.pointer p) "Put").run Try.prog w = .ok (fp, .pointer p) w
  entG : ∀ (args : Array Value) (w : World), (callFunc fg args).run Try.prog w = .ok (.enter fg args) w
  entP : ∀ (args : Array Value) (w : World), (callFunc fp args).run Try.prog w = .ok (.enter fp args) w
  At : World → (Nat → Prop) → σ → Prop
  off : ∀ {S O : Nat → Prop} {w w' : World} {s : σ}, At w O s → Off S w w' → (∀ k, S k → ¬ O k) → At w' O s
  lt : ∀ {O : Nat → Prop} {w : World} {s : σ} {k : Nat}, At w O s → O k → k < w.heap.size
  get : ∀ {O : Nat → Prop} {w : World} {s : σ} (a : Int × Int), At w O s → Calls Try.prog fg #[.pointer p, addrV a] w (GePost At K w O s a)
  put : ∀ {O : Nat → Prop} {w : World} {s : σ} {v : Value} {b : Bytes}, At w O s → K.Rdy s 1 → SlA w v b → b.length ≤ 5000 → Calls Try.prog fp #[.pointer p, v] w (PuPost At K w O s b)
/-- A tree in memory. -/
structure TrAt {σ : Type} {K : SnkF σ} (M : Snk K) (w : World) (T : Nat) (O : Nat → Prop) (s : σ) (p : Int) : Prop where
  at_ : M.At w O s
  ne : ¬ O T
  sk : w.cell? ⟨T, 0, none⟩ = some (.iface M.T (.pointer M.p))
  pu : w.cell? ⟨T, 1, none⟩ = some (.int .i64 p)
  fr : w.frozen? ⟨T, 1, none⟩ = false
section
variable {σ : Type} {K : SnkF σ} {M : Snk K} {w w' : World} {T : Nat} {O S : Nat → Prop} {s : σ} {p : Int}
theorem TrAt.lt (h : TrAt M w T O s p) : T < w.heap.size := lt_of_cell h.sk
theorem TrAt.off (h : TrAt M w T O s p) (ho : Off S w w') (hs : ∀ k, S k → ¬ O k) (hT : ¬ S T) : TrAt M w' T O s p :=
  ⟨M.off h.at_ ho hs, h.ne, (ho.cell (p := ⟨T, 0, none⟩) h.lt hT).trans h.sk, (ho.cell (p := ⟨T, 1, none⟩) h.lt hT).trans h.pu, (ho.frozen (p := ⟨T, 1, none⟩) h.lt hT).trans h.fr⟩
theorem TrAt.up (h : TrAt M w T O s p) (hb : Below w.heap.size w w') : TrAt M w' T O s p := h.off (S := fun _ => False) (Off.of_below hb) (fun _ h => h.elim) id
theorem TrAt.drew (h : TrAt M w T O s p) : TrAt M w.drew T O s p := h.up (Below.refl _ _).drew
end
def tgetF {σ : Type} (K : SnkF σ) (s : σ) (r : Int × Int) (l q : Nat) : σ × Option RN × Int :=
  if (K.get s r).2.2 ≠ 0 then ((K.get s r).1, none, (K.get s r).2.2)
  else match parseB (K.get s r).2.1 with
    | none => ((K.get s r).1, none, 20)
    | some x => if x.underB l q then ((K.get s r).1, some x, 0) else ((K.get s r).1, none, 20)
/-- The tree's get has answered. -/
def TgPost {σ : Type} {K : SnkF σ} (M : Snk K) (w : World) (T : Nat) (O : Nat → Prop) (s : σ) (p : Int) (r : Int × Int) (l q : Nat) (e : Ending) (w' : World) : Prop :=
  TrAt M w' T O (tgetF K s r l q).1 p ∧ Off O w w' ∧ match (tgetF K s r l q).2.1 with
    | none => (tgetF K s r l q).2.2 ≠ 0 ∧ e = .returned (.tuple #[.pointer none, .int .i64 (tgetF K s r l q).2.2])
    | some x => ∃ X vv vl, (tgetF K s r l q).2.2 = 0 ∧ e = .returned (.tuple #[.pointer (some ⟨X, 0, none⟩), .int .i64 0]) ∧ NdAt w' X x vv vl ∧ w.heap.size ≤ X ∧ ValsIn (fun b => w.heap.size ≤ b ∧ b ≠ X) vv vl
theorem tgetF_eq {σ : Type} {K : SnkF σ} {s : σ} {r : Int × Int} {l q : Nat} {y : σ × Bytes × Int} (h : K.get s r = y) : tgetF K s r l q = if y.2.2 ≠ 0 then (y.1, none, y.2.2)
  else match parseB y.2.1 with
    | none => (y.1, none, 20)
    | some x => if x.underB l q then (y.1, some x, 0) else (y.1, none, 20) := by unfold tgetF; rw [h]
theorem tg_err {σ : Type} {K : SnkF σ} {M : Snk K} {w w' : World} {T : Nat} {O : Nat → Prop} {s ss : σ} {p er : Int} {r : Int × Int} {l q : Nat} (h : tgetF K s r l q = (ss, none, er)) (h1 : TrAt M w' T O ss p) (h2 : Off O w w') (h3 : er ≠ 0) :
    TgPost M w T O s p r l q (.returned (.tuple #[.pointer none, .int .i64 er])) w' := by
  unfold TgPost
  rw [h]
  exact ⟨h1, h2, h3, rfl⟩
theorem tg_ok {σ : Type} {K : SnkF σ} {M : Snk K} {w w' : World} {T : Nat} {O : Nat → Prop} {s ss : σ} {p : Int} {r : Int × Int} {l q : Nat} {x : RN} {X : Nat} {vv : Nat → Value} {vl : Value} (h : tgetF K s r l q = (ss, some x, 0)) (h1 : TrAt M w' T O ss p) (h2 : Off O w w')
    (h3 : NdAt w' X x vv vl) (h4 : w.heap.size ≤ X) (h5 : ValsIn (fun b => w.heap.size ≤ b ∧ b ≠ X) vv vl) :
    TgPost M w T O s p r l q (.returned (.tuple #[.pointer (some ⟨X, 0, none⟩), .int .i64 0])) w' := by
  unfold TgPost
  rw [h]
  exact ⟨h1, h2, X, vv, vl, rfl, rfl, h3, h4, h5⟩
set_option maxRecDepth 100000 in
set_option maxHeartbeats 2000000 in
theorem tget_any {σ : Type} {K : SnkF σ} {M : Snk K} {w : World} {T : Nat} {O : Nat → Prop} {s : σ} {p : Int} (h : TrAt M w T O s p) (r : Int × Int) {l q : Nat} (hl : l ≤ 7) (hq : q < 9223372036854775808) :
    Calls Try.prog 37 #[.pointer (some ⟨T, 0, none⟩), addrV r, .int .i64 (l : Nat), .int .i64 (q : Nat)] w (TgPost M w T O s p r l q) := by
  have H := Lib.hid h
  have c0 := h.sk
  have hlt := h.lt
  have hg := fun (w' : World) (hb : Off (fun _ => False) w w') => M.get r (M.off h.at_ hb (fun _ => False.elim))
  have HG := Lib.hid hg
  have nG := M.nilG
  have mG := M.metG
  have eG := M.entG
  clear h hg
  unfold addrV at HG ⊢
  go_enter Try.func37, Try.ntmps37
  go_wp2
  refine wp_region_up_tail 5 (by kernel_rfl) (by kernel_rfl) (by kernel_rfl) ?_
  simp only [List.take_succ_cons, List.take_zero, List.drop_succ_cons, List.drop_zero]
  repeat (go_big_quiet_step (fail))
  refine wpQuiet_nil ?_
  rintro _ ⟨g, rfl⟩
  go_wp2_with fail
  have hb1 : Below w.heap.size w g.world := ((Below.refl w.heap.size w).alloc (Nat.le_refl _) _).trans (g.h.mono (by simp))
  refine (HG.out g.world (Off.of_below hb1)).mono ?_
  rintro e w1 ⟨v, rfl, hA, hof, ⟨A, n, c, rfl, hnc, hS, hAd⟩, hfr, hl40⟩
  have hO : Off O w w1 := (Off.of_below hb1).trans hof
  have HT : Hid (TrAt M w1 T O (K.get s r).1 p) := Lib.hid ⟨hA, H.out.ne, ((hof.cell (p := ⟨T, 0, none⟩) (Nat.lt_of_lt_of_le hlt hb1.size) H.out.ne).trans (hb1.cell (p := ⟨T, 0, none⟩) hlt)).trans H.out.sk, ((hof.cell (p := ⟨T, 1, none⟩) (Nat.lt_of_lt_of_le hlt hb1.size) H.out.ne).trans (hb1.cell (p := ⟨T, 1, none⟩) hlt)).trans H.out.pu, ((hof.frozen (p := ⟨T, 1, none⟩) (Nat.lt_of_lt_of_le hlt hb1.size) H.out.ne).trans (hb1.frozen (p := ⟨T, 1, none⟩) hlt)).trans H.out.fr⟩
  have hsz : w.heap.size ≤ w1.heap.size := hO.size
  have HP := Lib.hid (parse_any w1 A n c _ hS hnc hAd hl40)
  have HO := Lib.hid hO
  clear hA hof hS hAd hfr hl40 hO HG H c0 nG mG eG
  have hte := tgetF_eq (K := K) (s := s) (r := r) (l := l) (q := q) rfl
  generalize K.get s r = y at *
  obtain ⟨ss, bb, er⟩ := y
  simp only at HP HT hte ⊢
  by_cases he : er = 0
  case neg =>
    have HTE := Lib.hid (show tgetF K s r l q = (ss, none, er) by rw [hte, if_pos he])
    clear hte
    go_wp2
    go_ret2
    exact tg_err HTE.out HT.out HO.out he
  subst he
  rw [if_neg (by simp)] at hte
  cases hpb : parseB bb with
  | none =>
    have HTE := Lib.hid (show tgetF K s r l q = (ss, none, 20) by rw [hte, hpb])
    unfold PaPost at HP
    simp only [hpb] at HP
    clear hte hpb
    go_wp2_with fail
    refine HP.out.mono ?_
    rintro e w2 ⟨hb2, pp, rfl⟩
    have HB2 := Lib.hid hb2
    clear hb2
    go_wp2
    go_ret2
    exact tg_err HTE.out (HT.out.up HB2.out) (HO.out.step HB2.out) (by omega)
  | some x =>
    unfold PaPost at HP
    simp only [hpb] at HP
    have hok := parseB_ok hpb
    simp only [hpb] at hte
    clear hpb
    go_wp2_with fail
    refine HP.out.mono ?_
    rintro e w2 ⟨hb2, X, vv, vl, rfl, hnd, hX, hvi⟩
    have HB2 := Lib.hid hb2
    have HN := Lib.hid hnd
    have HV := Lib.hid hvi
    have HU := Lib.hid (under_any hnd hok hl hq)
    clear hb2 hnd hvi
    cases hu : x.underB l q
    · rw [hu] at hte HU
      have HTE := Lib.hid (show tgetF K s r l q = (ss, none, 20) by rw [hte]; rfl)
      clear hte hu
      go_wp2_with fail
      refine HU.out.mono ?_
      rintro e w3 ⟨rfl, hb3⟩
      have HB3 := Lib.hid hb3
      clear hb3
      go_wp2
      go_ret2
      exact tg_err HTE.out ((HT.out.up HB2.out).up HB3.out) ((HO.out.step HB2.out).step HB3.out) (by omega)
    · rw [hu] at hte HU
      have HTE := Lib.hid (show tgetF K s r l q = (ss, some x, 0) by rw [hte]; rfl)
      clear hte hu
      go_wp2_with fail
      refine HU.out.mono ?_
      rintro e w3 ⟨rfl, hb3⟩
      have HB3 := Lib.hid hb3
      clear hb3
      go_wp2
      go_ret2
      exact tg_ok HTE.out ((HT.out.up HB2.out).up HB3.out) ((HO.out.step HB2.out).step HB3.out) (HN.out.up HB3.out) (by omega) (HV.out.mono fun b hb => ⟨by omega, hb.2⟩)
end Go.Proofs.Ytgkdggidgaifhaa
