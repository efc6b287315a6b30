/- delta's laws: the world behind the sets; DeltaKeys, walked. -/
import Derived.Test.YtgkdggidgaifhaaDkZ
import Derived.Test.YtgkdggidgaifhaaME
namespace Go.Proofs.Ytgkdggidgaifhaa
open Go.RowKit Go.Maps
set_option linter.unusedVariables false
set_option linter.unusedSimpArgs false

/-- Two deferred blocks are taken. -/
theorem leaves_two {P : Program} {fn : Func} {tmps : Array Value} {R : Ending → World → Prop} {F : Fence} {m D1 D2 : Nat} {v : Value} {w : World} (hne : D2 ≠ D1) (h2 : w.heap[D2]? = some (.deferred (some []))) (h1 : w.heap[D1]? = some (.deferred (some [])))
    (hr : (results fn tmps).run P ((w.putObj D2 (.deferred none)).putObj D1 (.deferred none)) = .ok v ((w.putObj D2 (.deferred none)).putObj D1 (.deferred none))) (hR : R (.returned v) ((w.putObj D2 (.deferred none)).putObj D1 (.deferred none))) :
    LeavesInM F m P fn tmps R [{ target := .collected D2, args := #[] }, { target := .collected D1, args := #[] }] .returning w :=
  ⟨by simp, .inl ⟨D2, _, rfl, run_takeDeferred h2, leaves_end (heap_off h1 (off_putObj w (l := D2) (.deferred none)) (fun e => hne e.symm)) hr hR⟩⟩
theorem tells_bound {rd : Rdr} {r : Int × Int} {m : Mp} (h : TellsR rd r m) {k : Nat} (hk : m k ≠ none) : k < 16777216 := by
  rcases h with ⟨_, h⟩ | h
  · exact absurd (h k) hk
  · exact (h.key hk).1
/-- A law's tree with two roots in boxes, the maps of what they tell, boxed. -/
structure TwoAt (W V : World) (S T ga gb ma mb Ma Mb : Nat) (O : Nat → Prop) (st : ShS × Int) (ra rb : Int × Int) (m1 m2 : Mp) (ps qs : Ps) : Prop where
  a : RtAt W V S T ga O st ra
  b : RtAt W V S T gb O st rb
  ta : TellsR (shRd st.1.L) ra m1
  tb : TellsR (shRd st.1.L) rb m2
  la : Lst m1 ps
  lb : Lst m2 qs
  ca : V.cell? ⟨ma, 0, none⟩ = some (.map (some Ma))
  cb : V.cell? ⟨mb, 0, none⟩ = some (.map (some Mb))
  ga : GMap V Ma m1 ps.length
  gb : GMap V Mb m2 qs.length
  out : Out O T ma ∧ Out O T mb ∧ Out O T Ma ∧ Out O T Mb
  le : ps.length ≤ 200 ∧ qs.length ≤ 200
section
variable {W V V' : World} {S T ga gb ma mb Ma Mb : Nat} {O : Nat → Prop} {st : ShS × Int} {ra rb : Int × Int} {m1 m2 : Mp} {ps qs : Ps}
/-- Other blocks of the law's have changed. -/
theorem TwoAt.off {P : Nat → Prop} (h : TwoAt W V S T ga gb ma mb Ma Mb O st ra rb m1 m2 ps qs) (ho : Off P V V') (hP : ∀ k, P k → Out O T k ∧ W.heap.size ≤ k ∧ k ≠ ga ∧ k ≠ gb ∧ k ≠ ma ∧ k ≠ mb ∧ k ≠ Ma ∧ k ≠ Mb) : TwoAt W V' S T ga gb ma mb Ma Mb O st ra rb m1 m2 ps qs :=
  ⟨h.a.offW ho (fun k e => ⟨(hP k e).1, (hP k e).2.1, (hP k e).2.2.1⟩), h.b.offW ho (fun k e => ⟨(hP k e).1, (hP k e).2.1, (hP k e).2.2.2.1⟩), h.ta, h.tb, h.la, h.lb,
    (ho.cell (p := ⟨ma, 0, none⟩) (lt_of_cell h.ca) (fun e => (hP ma e).2.2.2.2.1 rfl)).trans h.ca, (ho.cell (p := ⟨mb, 0, none⟩) (lt_of_cell h.cb) (fun e => (hP mb e).2.2.2.2.2.1 rfl)).trans h.cb,
    h.ga.off ho (fun e => (hP Ma e).2.2.2.2.2.2.1 rfl), h.gb.off ho (fun e => (hP Mb e).2.2.2.2.2.2.2 rfl), h.out, h.le⟩
theorem TwoAt.up (h : TwoAt W V S T ga gb ma mb Ma Mb O st ra rb m1 m2 ps qs) (hb : Below V.heap.size V V') : TwoAt W V' S T ga gb ma mb Ma Mb O st ra rb m1 m2 ps qs :=
  h.off (P := fun _ => False) (Off.of_below hb) (fun _ e => e.elim)
/-- Reads alone have been made. -/
theorem TwoAt.get (h : TwoAt W V S T ga gb ma mb Ma Mb O st ra rb m1 m2 ps qs) {s' : ShS} (hl : ShL W V' S T O (s', st.2)) (ho : Off O V V') (hs : SubR (shRd st.1.L) (shRd s'.L)) : TwoAt W V' S T ga gb ma mb Ma Mb O (s', st.2) ra rb m1 m2 ps qs :=
  ⟨⟨hl, h.a.box.off ho h.a.out.1, h.a.out, h.a.ge⟩, ⟨hl, h.b.box.off ho h.b.out.1, h.b.out, h.b.ge⟩, TellsK.mono h.ta hs, TellsK.mono h.tb hs, h.la, h.lb,
    (ho.cell (p := ⟨ma, 0, none⟩) (lt_of_cell h.ca) h.out.1.1).trans h.ca, (ho.cell (p := ⟨mb, 0, none⟩) (lt_of_cell h.cb) h.out.2.1.1).trans h.cb, h.ga.off ho h.out.2.2.1.1, h.gb.off ho h.out.2.2.2.1, h.out, h.le⟩
end
theorem RtAt.ev {W w V : World} {S T g : Nat} {O O' : Nat → Prop} {st st' : ShS × Int} {r : Int × Int} (h : RtAt W w S T g O st r) (hl : ShL W V S T O' st') (k : StEv w V T O O' st st') : RtAt W V S T g O' st' r :=
  ⟨hl, h.box.off k.off (fun e => e.elim h.out.1 h.out.2), out_next h.out k.hO h.box.lt, h.ge⟩
theorem Out.ev {w V : World} {T g : Nat} {O O' : Nat → Prop} {st st' : ShS × Int} (h : Out O T g) (k : StEv w V T O O' st st') (hg : g < w.heap.size) : Out O' T g := out_next h k.hO hg
/-- Behind the second set: its root and its map in new boxes. -/
theorem two_new {W V V' : World} {S T g10 M0 Ma : Nat} {O O' : Nat → Prop} {st st' : ShS × Int} {r0 r' : Int × Int} {m0 m' : Mp} {ps0 ps' : Ps} {N : Nat} (h10 : RtAt W V S T g10 O st r0) (g0 : GMap V M0 m0 ps0.length) (o0 : Out O T M0) (k : St12 W V V' S T O O' st st' r' Ma m' ps' N) (t t' : TypeId) :
    ∀ U, U = ((V'.alloc (.cells #[.int .i64 r'.1, .int .i64 r'.2] t)).alloc (.cells #[.map (some Ma)] t')) → RtAt W U S T g10 O' st' r0 ∧ GMap U M0 m0 ps0.length ∧ Out O' T M0 ∧ RtAt W U S T V'.heap.size O' st' r' ∧ U.cell? ⟨V'.heap.size + 1, 0, none⟩ = some (.map (some Ma)) ∧ GMap U Ma m' ps'.length ∧ Out O' T Ma ∧ Out O' T (V'.heap.size + 1) ∧ U.heap.size = V'.heap.size + 2 ∧ Below V'.heap.size V' U ∧ V.heap.size ≤ Ma ∧ Ma < V'.heap.size := by
  rintro U rfl
  have a1 := h10.ev k.l k.ev
  have a2 := g0.off k.ev.off (fun e => e.elim o0.1 o0.2)
  have a3 := o0.ev k.ev (MapIs.lt g0)
  have a4 := a1.boxA r' t
  have lMa := MapIs.lt k.mp
  have hb1 : Below V'.heap.size V' (V'.alloc (.cells #[.int .i64 r'.1, .int .i64 r'.2] t)) := (Below.refl _ _).alloc (Nat.le_refl _) _
  have s1 : (V'.alloc (.cells #[.int .i64 r'.1, .int .i64 r'.2] t)).heap.size = V'.heap.size + 1 := by simp
  have a5 := a2.off (S := fun _ => False) (Off.of_below hb1) id
  have a6 := k.mp.off (S := fun _ => False) (Off.of_below hb1) id
  have hlt : ∀ k', O' k' → k' < V'.heap.size := fun k' hk => (shM S).lt k.l.tr.at_ hk
  have hT := k.l.tr.lt
  generalize V'.alloc (.cells #[.int .i64 r'.1, .int .i64 r'.2] t) = V1 at *
  have hb2 : Below V1.heap.size V1 (V1.alloc (.cells #[.map (some Ma)] t')) := (Below.refl _ _).alloc (Nat.le_refl _) _
  have c2 := (alloc_at V1 (.map (some Ma)) t').1
  rw [s1] at c2
  exact ⟨a4.1.up hb2, a5.off (S := fun _ => False) (Off.of_below hb2) id, a3, a4.2.up hb2, c2, a6.off (S := fun _ => False) (Off.of_below hb2) id, k.oM, ⟨fun e => by have := hlt _ e; omega, by omega⟩, by simp [s1], hb1.trans (hb2.mono (by omega)), k.geM, lMa⟩
/-- The rounds that are counted alone. -/
def fStop (stop : Int) (x : Int × Bool) (_ : Chg) : (Int × Bool) × Bool := ((inc64 x.1, !decide (stop < inc64 x.1)), !decide (stop < inc64 x.1))
/-- Blocks that stay as they are. -/
def KeepH (V0 : World) (Kp : Nat → Prop) (V : World) : Prop := ∀ k, Kp k → k < V0.heap.size ∧ V.heap[k]? = V0.heap[k]?
theorem KeepH.lt {V0 V : World} {Kp : Nat → Prop} (h : KeepH V0 Kp V) {k : Nat} (hk : Kp k) : k < V.heap.size := by
  obtain ⟨h1, h2⟩ := h k hk
  rw [Array.getElem?_eq_getElem h1] at h2
  exact (Array.getElem?_eq_some_iff.1 h2).1
theorem KeepH.off {V0 V V' : World} {Kp S : Nat → Prop} (h : KeepH V0 Kp V) (ho : Off S V V') (hs : ∀ k, S k → ¬ Kp k) : KeepH V0 Kp V' := fun k hk => ⟨(h k hk).1, (ho.block k (h.lt hk) (fun e => hs k e hk)).trans (h k hk).2⟩
theorem KeepH.cell {V0 V : World} {Kp : Nat → Prop} (h : KeepH V0 Kp V) {g o : Nat} (hk : Kp g) : V.cell? ⟨g, o, none⟩ = V0.cell? ⟨g, o, none⟩ := World.cell?_of_block (h g hk).2
theorem KeepH.frozen {V0 V : World} {Kp : Nat → Prop} (h : KeepH V0 Kp V) {g o : Nat} (hk : Kp g) : V.frozen? ⟨g, o, none⟩ = V0.frozen? ⟨g, o, none⟩ := World.frozen?_of_block (h g hk).2
theorem Off.drop {P Q : Nat → Prop} {V V' : World} (h : Off P V V') (hq : ∀ k, P k → Q k ∨ V'.heap[k]? = V.heap[k]?) : Off Q V V' := ⟨h.os, h.tape, h.output, h.size, fun k hk hn => by
  by_cases hp : P k
  · exact (hq k hp).resolve_left hn
  · exact h.block k hk hp⟩
def ivStop (g21 : Nat) (V0 : World) (Kp : Nat → Prop) (V : World) (O : Nat → Prop) (x : Int × Bool) : Prop := (V.cell? ⟨g21, 0, none⟩ = some (.int .i64 x.1) ∧ V.frozen? ⟨g21, 0, none⟩ = false ∧ KeepH V0 Kp V) ∧ ∀ k, O k ↔ k = g21 ∨ Kp k
theorem ivStop.off {g21 : Nat} {V0 : World} {Kp : Nat → Prop} {S O : Nat → Prop} {w w' : World} {x : Int × Bool} (h : ivStop g21 V0 Kp w O x) (ho : Off S w w') (hs : ∀ k, S k → ¬ O k) : ivStop g21 V0 Kp w' O x := by
  obtain ⟨⟨h1, h2, h3⟩, h4⟩ := h
  have n1 : ¬ S g21 := fun e => hs _ e ((h4 _).2 (.inl rfl))
  exact ⟨⟨(ho.cell (p := ⟨g21, 0, none⟩) (lt_of_cell h1) n1).trans h1, (ho.frozen (p := ⟨g21, 0, none⟩) (lt_of_cell h1) n1).trans h2, h3.off ho (fun k e e2 => hs k e ((h4 k).2 (.inr e2)))⟩, h4⟩
theorem ivStop.lt {g21 : Nat} {V0 : World} {Kp : Nat → Prop} {O : Nat → Prop} {w : World} {x : Int × Bool} {k : Nat} (h : ivStop g21 V0 Kp w O x) (hk : O k) : k < w.heap.size := by
  rcases (h.2 k).1 hk with e | e
  · rw [e]; exact lt_of_cell h.1.1
  · exact h.1.2.2.lt e
theorem TwoAt.getP {W V V' : World} {S T ga gb ma mb Ma Mb : Nat} {O P : Nat → Prop} {st : ShS × Int} {ra rb : Int × Int} {m1 m2 : Mp} {ps qs : Ps} (h : TwoAt W V S T ga gb ma mb Ma Mb O st ra rb m1 m2 ps qs) {s' : ShS} (ht : TrAt (shM S) V' T O s' st.2) (hk : Like shP st.1 s') (ho : Off (fun k => O k ∨ P k) V V') (hP : ∀ k, P k → W.heap.size ≤ k ∧ k ≠ ga ∧ k ≠ gb ∧ k ≠ ma ∧ k ≠ mb ∧ k ≠ Ma ∧ k ≠ Mb) : TwoAt W V' S T ga gb ma mb Ma Mb O (s', st.2) ra rb m1 m2 ps qs := by
  have hl : ShL W V' S T O (s', st.2) := ⟨ht, h.a.l.hO, h.a.l.hT, hk.inn, h.a.l.bel.trans (ho.below (fun k e => e.elim (h.a.l.hO k) (fun e => (hP k e).1)) h.a.l.bel.size)⟩
  have hs : SubR (shRd st.1.L) (shRd s'.L) := by rw [show shRd s'.L = shRd st.1.L from hk.rd]; exact SubR.refl _
  exact ⟨⟨hl, h.a.box.off ho (fun e => e.elim h.a.out.1 (fun e => (hP _ e).2.1 rfl)), h.a.out, h.a.ge⟩, ⟨hl, h.b.box.off ho (fun e => e.elim h.b.out.1 (fun e => (hP _ e).2.2.1 rfl)), h.b.out, h.b.ge⟩, TellsK.mono h.ta hs, TellsK.mono h.tb hs, h.la, h.lb,
    (ho.cell (p := ⟨ma, 0, none⟩) (lt_of_cell h.ca) (fun e => e.elim h.out.1.1 (fun e => (hP _ e).2.2.2.1 rfl))).trans h.ca, (ho.cell (p := ⟨mb, 0, none⟩) (lt_of_cell h.cb) (fun e => e.elim h.out.2.1.1 (fun e => (hP _ e).2.2.2.2.1 rfl))).trans h.cb, h.ga.off ho (fun e => e.elim h.out.2.2.1.1 (fun e => (hP _ e).2.2.2.2.2.1 rfl)), h.gb.off ho (fun e => e.elim h.out.2.2.2.1 (fun e => (hP _ e).2.2.2.2.2.2 rfl)), h.out, h.le⟩
/-- The rounds in which each change is looked at. -/
def fK (m m' : Mp) (x : Option (Int × Int)) (c : Chg) : Option (Int × Int) × Bool :=
  match x with
  | none => (none, false)
  | some (last, n) => if last < (c.1 : Int) ∧ c.2.1 = m c.1 ∧ c.2.2 = m' c.1 ∧ m c.1 ≠ m' c.1 then (some (((c.1 : Nat) : Int), inc64 n), true) else (none, false)
theorem fK_al (m m' : Mp) (x : Option (Int × Int)) (c : Chg) (hx : x.isSome = true) : (fK m m' x c).2 = (fK m m' x c).1.isSome := by
  cases x with
  | none => cases hx
  | some x =>
    obtain ⟨last, n⟩ := x
    unfold fK
    dsimp only
    split <;> rfl
theorem foldE_K {m m' : Mp} : ∀ (cs : List Chg) (last n : Int), cs.Pairwise (fun a b => a.1 < b.1) → (∀ c ∈ cs, last < (c.1 : Int)) → (∀ c ∈ cs, c.2.1 = m c.1 ∧ c.2.2 = m' c.1 ∧ m c.1 ≠ m' c.1) → ∃ last', foldE (fK m m') (some (last, n)) cs = (some (last', incN n cs.length), true)
  | [], last, n, _, _, _ => ⟨last, rfl⟩
  | c :: cs, last, n, hu, hl, hg => by
    obtain ⟨h1, h2⟩ := List.pairwise_cons.1 hu
    obtain ⟨l', ih⟩ := foldE_K cs (c.1 : Nat) (inc64 n) h2 (fun d hd => by have := h1 d hd; omega) (fun d hd => hg d (List.mem_cons_of_mem _ hd))
    have e : fK m m' (some (last, n)) c = (some (((c.1 : Nat) : Int), inc64 n), true) := by
      unfold fK
      dsimp only
      rw [if_pos ⟨hl c (by simp), hg c (by simp)⟩]
    refine ⟨l', ?_⟩
    have e2 : foldE (fK m m') (some (last, n)) (c :: cs) = foldE (fK m m') (some (((c.1 : Nat) : Int), inc64 n)) cs := by
      show (if (fK m m' (some (last, n)) c).2 = true then _ else _) = _
      rw [e]
      rfl
    rw [e2, ih, List.length_cons, show inc64 n = incN n 1 from rfl, incN_add, Nat.add_comm]
theorem good_iff (o mo w mw : Option Bytes) : (o = mo ∧ w = mw ∧ mo ≠ mw) ↔ (o.isSome = mo.isSome ∧ w.isSome = mw.isSome ∧ o.getD [] = mo.getD [] ∧ w.getD [] = mw.getD [] ∧ ¬ (mo.isSome = mw.isSome ∧ mo.getD [] = mw.getD [])) := by
  cases o <;> cases mo <;> cases w <;> cases mw <;> simp
structure IvKB (g21 g22 : Nat) (V0 : World) (Kp : Nat → Prop) (V : World) (last n : Int) : Prop where
  c21 : V.cell? ⟨g21, 0, none⟩ = some (.int .i64 n)
  f21 : V.frozen? ⟨g21, 0, none⟩ = false
  c22 : V.cell? ⟨g22, 0, none⟩ = some (.int .i64 last)
  f22 : V.frozen? ⟨g22, 0, none⟩ = false
  kp : KeepH V0 Kp V
def ivK (g21 g22 : Nat) (V0 : World) (Kp : Nat → Prop) (V : World) (O : Nat → Prop) (x : Option (Int × Int)) : Prop := (∃ last n, x = some (last, n) ∧ IvKB g21 g22 V0 Kp V last n) ∧ ∀ k, O k ↔ k = g21 ∨ k = g22 ∨ Kp k
theorem ivK.off {g21 g22 : Nat} {V0 : World} {Kp : Nat → Prop} {S O : Nat → Prop} {w w' : World} {x : Option (Int × Int)} (h : ivK g21 g22 V0 Kp w O x) (ho : Off S w w') (hs : ∀ k, S k → ¬ O k) : ivK g21 g22 V0 Kp w' O x := by
  obtain ⟨⟨last, n, rfl, h⟩, h4⟩ := h
  have n1 : ¬ S g21 := fun e => hs _ e ((h4 _).2 (.inl rfl))
  have n2 : ¬ S g22 := fun e => hs _ e ((h4 _).2 (.inr (.inl rfl)))
  exact ⟨⟨last, n, rfl, (ho.cell (p := ⟨g21, 0, none⟩) (lt_of_cell h.c21) n1).trans h.c21, (ho.frozen (p := ⟨g21, 0, none⟩) (lt_of_cell h.c21) n1).trans h.f21, (ho.cell (p := ⟨g22, 0, none⟩) (lt_of_cell h.c22) n2).trans h.c22, (ho.frozen (p := ⟨g22, 0, none⟩) (lt_of_cell h.c22) n2).trans h.f22, h.kp.off ho (fun k e e2 => hs k e ((h4 k).2 (.inr (.inr e2))))⟩, h4⟩
theorem ivK.lt {g21 g22 : Nat} {V0 : World} {Kp : Nat → Prop} {O : Nat → Prop} {w : World} {x : Option (Int × Int)} {k : Nat} (h : ivK g21 g22 V0 Kp w O x) (hk : O k) : k < w.heap.size := by
  obtain ⟨⟨last, n, rfl, h⟩, h4⟩ := h
  rcases (h4 k).1 hk with e | e | e
  · rw [e]; exact lt_of_cell h.c21
  · rw [e]; exact lt_of_cell h.c22
  · exact h.kp.lt e
def KeyPost (W : World) (e : Ending) (w' : World) : Prop := e = .returned (.bool true) ∧ Below W.heap.size W w'
set_option maxRecDepth 100000 in
set_option maxHeartbeats 16000000 in
theorem keys_walk (W : World) {A0 A1 A2 : Option Addr} {n0 n1 n2 c0 c1 c2 : Nat} {b0 b1 b2 : Nat → PArg} (h0 : Prs W A0 n0 b0) (h1 : Prs W A1 n1 b1) (h2 : Prs W A2 n2 b2) (hn0 : n0 ≤ 9223372036854775807) (hn1 : n1 ≤ 9223372036854775807) (hn2 : n2 ≤ 9223372036854775807) (stop : Int) :
    Calls Try.prog 3 #[.slice A0 n0 c0, .slice A1 n1 c1, .slice A2 n2 c2, .int .i64 stop] W (KeyPost W) := by
  have H0 := Lib.hid h0
  have H1 := Lib.hid h1
  have H2 := Lib.hid h2
  clear h0 h1 h2
  refine (callsIn_wide (n := 9)).1 ?_
  refine callsIn_of_wp_marks Try.func3 rfl trivial ?_ rfl
  simp only [Try.ntmps3, List.size_toArray, List.length_cons, List.length_nil, Nat.reduceAdd, Nat.reduceSub, Array.replicate_succ, Array.replicate_zero, List.push_toArray, List.append_toArray, List.nil_append, List.cons_append]
  refine wpIn_wide.2 ?_
  go_upto_region 1 with (fail)
  have tb : ∀ V, V = ((W.alloc (.cells #[.int .i64 stop] 3)).alloc (.cells #[.bool false] 4)) → Below W.heap.size W V ∧ V.cell? ⟨W.heap.size, 0, none⟩ = some (.int .i64 stop) ∧ V.cell? ⟨W.heap.size + 1, 0, none⟩ = some (.bool false) ∧ V.frozen? ⟨W.heap.size + 1, 0, none⟩ = false ∧ V.heap.size = W.heap.size + 2 := by
    rintro V rfl
    have s1 : (W.alloc (.cells #[.int .i64 stop] 3)).heap.size = W.heap.size + 1 := by simp
    have b1 : Below W.heap.size W (W.alloc (.cells #[.int .i64 stop] 3)) := (Below.refl _ _).alloc (Nat.le_refl _) _
    have x1 := (alloc_at W (.int .i64 stop) 3).1
    generalize W.alloc (.cells #[.int .i64 stop] 3) = V1 at *
    have b2 : Below V1.heap.size V1 (V1.alloc (.cells #[.bool false] 4)) := (Below.refl _ _).alloc (Nat.le_refl _) _
    have x2 := alloc_at V1 (.bool false) 4
    rw [s1] at x2
    exact ⟨b1.trans (b2.mono (by omega)), (b2.cell (p := ⟨W.heap.size, 0, none⟩) (by show W.heap.size < V1.heap.size; omega)).trans x1, x2.1, x2.2, by simp [s1]⟩
  refine wp_forget (fun V => Below W.heap.size W V ∧ V.cell? ⟨W.heap.size, 0, none⟩ = some (.int .i64 stop) ∧ V.cell? ⟨W.heap.size + 1, 0, none⟩ = some (.bool false) ∧ V.frozen? ⟨W.heap.size + 1, 0, none⟩ = false ∧ V.heap.size = W.heap.size + 2) (tb _ rfl) ?_
  clear tb
  rintro V0 ⟨hb0, q7, q8, f8, hs0⟩
  obtain ⟨g7, hg7⟩ : ∃ g, W.heap.size = g := ⟨_, rfl⟩
  obtain ⟨g8, hg8⟩ : ∃ g, W.heap.size + 1 = g := ⟨_, rfl⟩
  rw [hg7] at q7
  rw [hg8] at q8 f8
  rw [hg8, hg7]
  have HG := Lib.hid (show W.heap.size = g7 ∧ g8 = g7 + 1 ∧ V0.heap.size = g7 + 2 by omega)
  have HB0 := Lib.hid hb0
  clear hb0 hs0 hg7 hg8
  go_upto_region 3 with (go_at_call 7; refine (known12_any _).mono ?_; rintro e V1 ⟨rfl, hb1⟩; have HB1 := Lib.hid hb1; clear hb1)
  have c7 := (HB1.out.cell (p := ⟨g7, 0, none⟩) (lt_of_cell q7)).trans q7
  have c8 := (HB1.out.cell (p := ⟨g8, 0, none⟩) (lt_of_cell q8)).trans q8
  have z8 := (HB1.out.frozen (p := ⟨g8, 0, none⟩) (lt_of_cell q8)).trans f8
  have HBW := Lib.hid (HB0.out.trans (HB1.out.mono HB0.out.size))
  have HC8 : Hid (W.heap.size ≤ g8) := Lib.hid (by have := HG.out; omega)
  have HGV : Hid (W.heap.size = g7 ∧ g8 = g7 + 1 ∧ g7 + 2 ≤ V1.heap.size) := Lib.hid (by have := HG.out; have := HB1.out.size; omega)
  clear q7 q8 f8 HB0 HB1 HG
  have R0 := Lib.hid (right12_any (c := c0) (H0.out.up HBW.out) hn0)
  have R1 := Lib.hid (right12_any (c := c1) (H1.out.up HBW.out) hn1)
  have R2 := Lib.hid (right12_any (c := c2) (H2.out.up HBW.out) hn2)
  have l8 := lt_of_cell c8
  have HNO : Hid (KeyPost W (.returned (.bool true)) (V1.setCell ⟨g8, 0, none⟩ (.bool true)) ∧ (V1.setCell ⟨g8, 0, none⟩ (.bool true)).cell? ⟨g8, 0, none⟩ = some (.bool true)) := Lib.hid ⟨⟨rfl, HBW.out.setCell (p := ⟨g8, 0, none⟩) (by have := HGV.out; show W.heap.size ≤ g8; omega) _⟩, World.cell?_setCell_same _ _ _ c8⟩
  by_cases hr : RightL b0 n0 ∧ RightL b1 n1 ∧ RightL b2 n2
  case neg =>
    have fin : ∀ (Tm : Array Value), Tm.getD 8 undef = .pointer (some ⟨g8, 0, none⟩) → bodyPostM Fence.wide 9 Try.prog Try.f3 (KeyPost W) .ret { tmps := Tm, defers := [] } (V1.setCell ⟨g8, 0, none⟩ (.bool true)) := fun Tm hT => ⟨_, results_bool1 rfl Tm _ g8 true hT HNO.out.2, HNO.out.1⟩
    have HFIN := Lib.hid fin
    clear fin HNO
    by_cases hr0 : RightL b0 n0
    · rw [decide_eq_true hr0] at R0
      by_cases hr1 : RightL b1 n1
      · rw [decide_eq_true hr1] at R1
        have hr2 : ¬ RightL b2 n2 := fun h => hr ⟨hr0, hr1, h⟩
        rw [decide_eq_false hr2] at R2
        clear hr0 hr1 hr2 hr
        go_wp2_with (go_at_call 8; first
          | ((with_reducible refine R0.out.mono ?_); rintro e V ⟨rfl, rfl⟩)
          | ((with_reducible refine R1.out.mono ?_); rintro e V ⟨rfl, rfl⟩)
          | ((with_reducible refine R2.out.mono ?_); rintro e V ⟨rfl, rfl⟩))
        exact HFIN.out _ rfl
      · rw [decide_eq_false hr1] at R1
        clear hr0 hr1 hr
        go_wp2_with (go_at_call 8; first
          | ((with_reducible refine R0.out.mono ?_); rintro e V ⟨rfl, rfl⟩)
          | ((with_reducible refine R1.out.mono ?_); rintro e V ⟨rfl, rfl⟩))
        exact HFIN.out _ rfl
    · rw [decide_eq_false hr0] at R0
      clear hr0 hr
      go_wp2_with (go_at_call 8; (with_reducible refine R0.out.mono ?_); rintro e V ⟨rfl, rfl⟩)
      exact HFIN.out _ rfl
  case pos =>
  obtain ⟨hr0, hr1, hr2⟩ := hr
  rw [decide_eq_true hr0] at R0
  rw [decide_eq_true hr1] at R1
  rw [decide_eq_true hr2] at R2
  have HR := Lib.hid (And.intro hr0 (And.intro hr1 hr2))
  clear hr0 hr1 hr2 HNO
  go_upto_region 5 with (go_at_call 8; first
    | ((with_reducible refine R0.out.mono ?_); rintro e V ⟨rfl, rfl⟩)
    | ((with_reducible refine R1.out.mono ?_); rintro e V ⟨rfl, rfl⟩)
    | ((with_reducible refine R2.out.mono ?_); rintro e V ⟨rfl, rfl⟩))
  clear R0 R1 R2
  go_upto_region 6 with (first
    | (go_at_call 10; refine (newShelf_any _).mono ?_; rintro e V2 hsh; have he1 := hsh.1; subst he1; have HSH := Lib.hid hsh; have HTN : Hid (Calls Try.prog 9 #[.iface 27 (.pointer (some ⟨V.heap.size, 0, none⟩))] V2 (TrNew (shM V.heap.size) V2 (· = V.heap.size) sh0)) := Lib.hid (treeNew_any (M := shM V.heap.size) (w := V2) (O := (· = V.heap.size)) (s := sh0) (show (shM V.heap.size).At V2 (· = V.heap.size) sh0 from hsh.2.2.2)); clear hsh)
    | (go_at_call 9; refine HTN.out.mono ?_; rintro e V3 htn; have he2 := htn.1; subst he2))
  have hl3 := shl_new (Below.refl V.heap.size V) HSH.out htn
  obtain ⟨S, hS⟩ : ∃ S, V.heap.size = S := ⟨_, rfl⟩
  obtain ⟨T, hT⟩ : ∃ T, V2.heap.size = T := ⟨_, rfl⟩
  rw [hS, hT] at hl3
  rw [hT]
  have P0 := Lib.hid (H0.out.up HBW.out)
  have P1 := Lib.hid (H1.out.up HBW.out)
  have P2 := Lib.hid (H2.out.up HBW.out)
  have HS1 := Lib.hid (set12_any (W := V) (c := c0) hl3 (r := (0, 0)) (N := 14 * n1 + 14 * n2) (sh0_rdy (by have := HR.out.1.2; have := HR.out.2.1.2; have := HR.out.2.2.2; omega)) (by show (-1 : Int) < 0; omega) (.inl ⟨rfl, fun _ => rfl⟩) Lst.nil (.inl ⟨rfl, rfl, rfl⟩) P0.out HR.out.1.1 HR.out.1.2)
  simp only [List.length_nil, Nat.zero_add] at HS1
  have HC := Lib.hid (show g7 < V.heap.size ∧ V.cell? ⟨g7, 0, none⟩ = some (.int .i64 stop) ∧ V.cell? ⟨g8, 0, none⟩ = some (.bool false) ∧ V.frozen? ⟨g8, 0, none⟩ = false ∧ g8 < V.heap.size from ⟨lt_of_cell c7, c7, c8, z8, l8⟩)
  have HSH0 : Hid (V.heap.size ≤ V3.heap.size) := Lib.hid hl3.bel.size
  clear hS hT hl3 htn HTN HSH H0 H1 H2 c7 c8 z8 l8
  go_upto_region 9 with (go_at_call 11; refine HS1.out.mono ?_; rintro e V4 ⟨O4, st4, ⟨ra4, rb4⟩, M0, ps0, rfl, hle0, hk0⟩)
  have h10 : RtAt V (V4.alloc (.cells #[.int .i64 ra4, .int .i64 rb4] 30)) S T V4.heap.size O4 st4 (ra4, rb4) := ⟨(hk0.l.box (ra4, rb4) 30).1, (hk0.l.box (ra4, rb4) 30).2.1, (hk0.l.box (ra4, rb4) 30).2.2, hk0.l.bel.size⟩
  have g0 : GMap (V4.alloc (.cells #[.int .i64 ra4, .int .i64 rb4] 30)) M0 (mpZ (fun _ => none) b0 n0) ps0.length := hk0.mp.off (S := fun _ => False) (Off.of_below ((Below.refl _ _).alloc (Nat.le_refl _) _)) id
  refine wp_forget (fun U => RtAt V U S T V4.heap.size O4 st4 (ra4, rb4) ∧ GMap U M0 (mpZ (fun _ => none) b0 n0) ps0.length) ⟨h10, g0⟩ ?_
  obtain ⟨g10, hg10⟩ : ∃ g, V4.heap.size = g := ⟨_, rfl⟩
  rw [hg10]
  have HK0 := Lib.hid (show shK.Rdy st4.1 (14 * n1 + 14 * n2) ∧ st4.1.full < 0 ∧ TellsR (shRd st4.1.L) (ra4, rb4) (mpZ (fun _ => none) b0 n0) ∧ Lst (mpZ (fun _ => none) b0 n0) ps0 ∧ Out O4 T M0 ∧ V.heap.size ≤ M0 from ⟨hk0.rdy, hk0.full, hk0.tells, hk0.lst, hk0.oM, Nat.le_trans HSH0.out hk0.geM⟩)
  clear h10 g0 hg10 hk0 HS1
  rintro V5 ⟨h10, g0⟩
  have HS1 := Lib.hid (set12_any (W := V) (c := c1) h10.l (r := (ra4, rb4)) (N := 14 * n2) HK0.out.1 HK0.out.2.1 HK0.out.2.2.1 HK0.out.2.2.2.1 (.inr ⟨M0, rfl, g0⟩) P1.out HR.out.2.1.1 HR.out.2.1.2)
  simp only at HS1
  have H10 := Lib.hid h10
  have HG0 := Lib.hid g0
  have d0 := h10.box.1
  have d1 := h10.box.2.1
  have ld := h10.box.lt
  simp only at d0 d1
  clear h10 g0
  go_upto_region 10 with (go_at_call 11; refine HS1.out.mono ?_; rintro e V6 ⟨O6, st6, ⟨ra6, rb6⟩, Ma, ps, rfl, hle1, hk1⟩)
  have hnew := two_new H10.out HG0.out HK0.out.2.2.2.2.1 hk1 30 31 _ rfl
  simp only at hnew
  have HK1 := Lib.hid (show shK.Rdy st6.1 (14 * n2) ∧ st6.1.full < 0 ∧ TellsR (shRd st6.1.L) (ra6, rb6) (mpZ (mpZ (fun _ => none) b0 n0) b1 n1) ∧ Lst (mpZ (mpZ (fun _ => none) b0 n0) b1 n1) ps ∧ SubR (shRd st4.1.L) (shRd st6.1.L) ∧ ps0.length ≤ 100 ∧ ps.length ≤ 200 from ⟨hk1.rdy, hk1.full, hk1.tells, hk1.lst, hk1.ev.sub, by have := HR.out.1.2; omega, by have := HR.out.1.2; have := HR.out.2.1.2; omega⟩)
  have HV6 : Hid (V.heap.size ≤ V6.heap.size) := Lib.hid hk1.l.bel.size
  have HV5 : Hid (V.heap.size ≤ V5.heap.size) := Lib.hid H10.out.l.bel.size
  refine wp_forget (fun U => RtAt V U S T g10 O6 st6 (ra4, rb4) ∧ GMap U M0 (mpZ (fun _ => none) b0 n0) ps0.length ∧ Out O6 T M0 ∧ RtAt V U S T V6.heap.size O6 st6 (ra6, rb6) ∧ U.cell? ⟨V6.heap.size + 1, 0, none⟩ = some (.map (some Ma)) ∧ GMap U Ma (mpZ (mpZ (fun _ => none) b0 n0) b1 n1) ps.length ∧ Out O6 T Ma ∧ Out O6 T (V6.heap.size + 1) ∧ U.heap.size = V6.heap.size + 2 ∧ Below V6.heap.size V6 U ∧ V5.heap.size ≤ Ma ∧ Ma < V6.heap.size) hnew ?_
  clear hnew hk1 HS1 d0 d1 ld H10 HG0
  rintro V7 ⟨h10, g0, oM0, h13, c14, gMa, oMa, o14, hs7, hb7, hMa, hMl⟩
  obtain ⟨g13, hg13⟩ : ∃ g, V6.heap.size = g := ⟨_, rfl⟩
  obtain ⟨g14, hg14⟩ : ∃ g, V6.heap.size + 1 = g := ⟨_, rfl⟩
  rw [hg13] at h13
  rw [hg14] at c14 o14
  rw [hg14, hg13]
  have HS1 := Lib.hid (set12_any (W := V) (c := c2) h10.l (r := (ra4, rb4)) (N := 0) HK1.out.1 HK1.out.2.1 (TellsK.mono HK0.out.2.2.1 HK1.out.2.2.2.2.1) HK0.out.2.2.2.1 (.inr ⟨M0, rfl, g0⟩) P2.out HR.out.2.2.1 HR.out.2.2.2)
  simp only at HS1
  have H13 := Lib.hid h13
  have HC14 := Lib.hid c14
  have HGA := Lib.hid gMa
  have H10 := Lib.hid h10
  have HG0 := Lib.hid g0
  have HO7 := Lib.hid (show Out O6 T M0 ∧ Out O6 T Ma ∧ Out O6 T g14 from ⟨oM0, oMa, o14⟩)
  have HN7 := Lib.hid (show g13 + 1 = g14 ∧ V7.heap.size = g13 + 2 ∧ Ma < g13 ∧ V.heap.size ≤ Ma ∧ V.heap.size ≤ g13 by have := HV5.out; have := HV6.out; omega)
  have d0 := h10.box.1
  have d1 := h10.box.2.1
  have ld := h10.box.lt
  simp only at d0 d1
  clear h10 g0 oM0 h13 c14 gMa oMa o14 hs7 hb7 hMa hMl hg13 hg14
  go_upto_region 11 with (go_at_call 11; refine HS1.out.mono ?_; rintro e V8 ⟨O8, st8, ⟨ra8, rb8⟩, Mb, qs, rfl, hle2, hk2⟩)
  have hnew := two_new H10.out HG0.out HO7.out.1 hk2 30 31 _ rfl
  simp only at hnew
  have hTW : ∀ U, (RtAt V U S T V8.heap.size O8 st8 (ra8, rb8) ∧ U.cell? ⟨V8.heap.size + 1, 0, none⟩ = some (.map (some Mb)) ∧ GMap U Mb (mpZ (mpZ (fun _ => none) b0 n0) b2 n2) qs.length ∧ Out O8 T Mb ∧ Out O8 T (V8.heap.size + 1) ∧ Below V8.heap.size V8 U) → TwoAt V U S T g13 V8.heap.size g14 (V8.heap.size + 1) Ma Mb O8 st8 (ra6, rb6) (ra8, rb8) (mpZ (mpZ (fun _ => none) b0 n0) b1 n1) (mpZ (mpZ (fun _ => none) b0 n0) b2 n2) ps qs := fun U ⟨u1, u2, u3, u4, u5, u6⟩ => by
    have e1 := H13.out.ev hk2.l hk2.ev
    have ec := (hk2.ev.off.cell (p := ⟨g14, 0, none⟩) (lt_of_cell HC14.out) (fun e => e.elim HO7.out.2.2.1 HO7.out.2.2.2)).trans HC14.out
    exact ⟨e1.up u6, u1, TellsK.mono HK1.out.2.2.1 hk2.ev.sub, hk2.tells, HK1.out.2.2.2.1, hk2.lst, (u6.cell (p := ⟨g14, 0, none⟩) (lt_of_cell ec)).trans ec, u2, (HGA.out.off hk2.ev.off (fun e => e.elim HO7.out.2.1.1 HO7.out.2.1.2)).off (S := fun _ => False) (Off.of_below u6) id, u3,
      ⟨HO7.out.2.2.ev hk2.ev (lt_of_cell HC14.out), u5, HO7.out.2.1.ev hk2.ev (MapIs.lt HGA.out), u4⟩, HK1.out.2.2.2.2.2.2, by have := HK1.out.2.2.2.2.2.1; have := HR.out.2.2.2; omega⟩
  have hnm : shK.Rdy st8.1 0 ∧ V7.heap.size ≤ Mb ∧ Mb < V8.heap.size ∧ V7.heap.size ≤ V8.heap.size := ⟨hk2.rdy, hnew.2.2.2.2.2.2.2.2.2.2.1, hnew.2.2.2.2.2.2.2.2.2.2.2, hk2.ev.off.size⟩
  refine wp_forget (fun U => TwoAt V U S T g13 V8.heap.size g14 (V8.heap.size + 1) Ma Mb O8 st8 (ra6, rb6) (ra8, rb8) (mpZ (mpZ (fun _ => none) b0 n0) b1 n1) (mpZ (mpZ (fun _ => none) b0 n0) b2 n2) ps qs ∧ U.heap.size = V8.heap.size + 2) ⟨hTW _ ⟨hnew.2.2.2.1, hnew.2.2.2.2.1, hnew.2.2.2.2.2.1, hnew.2.2.2.2.2.2.1, hnew.2.2.2.2.2.2.2.1, hnew.2.2.2.2.2.2.2.2.2.1⟩, hnew.2.2.2.2.2.2.2.2.1⟩ ?_
  clear hnew hk2 HS1 d0 d1 ld H10 HG0 H13 HC14 HGA hTW
  rintro V9 ⟨htw, hs9⟩
  obtain ⟨g16, hg16⟩ : ∃ g, V8.heap.size = g := ⟨_, rfl⟩
  obtain ⟨g17, hg17⟩ : ∃ g, V8.heap.size + 1 = g := ⟨_, rfl⟩
  rw [hg17, hg16] at htw
  rw [hg17, hg16]
  have HNE := Lib.hid (show g7 < V.heap.size ∧ g8 < V.heap.size ∧ g7 ≠ g8 ∧ V.heap.size ≤ Ma ∧ Ma < g13 ∧ g13 < g14 ∧ g14 < Mb ∧ Mb < g16 ∧ g16 < g17 ∧ g17 < V9.heap.size by have := HN7.out; have := HC.out; have := HGV.out; have := hnm.2; omega)
  have HTW := Lib.hid htw
  have HO8 : Hid ((∀ k, O8 k → k < V9.heap.size ∧ V.heap.size ≤ k) ∧ T < V9.heap.size ∧ V.heap.size ≤ T) := Lib.hid ⟨fun k hk => ⟨(shM S).lt htw.a.l.tr.at_ hk, htw.a.l.hO k hk⟩, htw.a.l.tr.lt, htw.a.l.hT⟩
  have HRD := Lib.hid hnm.1
  generalize mpZ (mpZ (fun _ => none) b0 n0) b1 n1 = m1 at *
  generalize mpZ (mpZ (fun _ => none) b0 n0) b2 n2 = m2 at *
  clear htw hs9 hg16 hg17 hnm HN7 HO7 HK0 HK1 HV5 HV6 P0 P1 P2 HR hle0 hle1 hle2 HGV hn0 hn1 hn2
  have hci := merge_is HTW.out.la HTW.out.lb (Nat.le_refl _)
  have hcn := chg_count HTW.out.la HTW.out.lb hci
  obtain ⟨cs, hcs⟩ : ∃ cs, chgs ps qs = cs := ⟨_, rfl⟩
  have hci2 : ChgIs m1 m2 cs := by rw [← hcs]; exact hci
  have hcl : cs.length = (ps.filter (pr1 m2)).length + (qs.filter (pr2 m1)).length := by rw [← hcs]; exact hcn
  have HCI := Lib.hid hci2
  have HCS := Lib.hid hcs
  have HCL : Hid (cs.length ≤ 400) := Lib.hid (by have := mergeN_len (ps.length + qs.length) ps qs; have := HTW.out.le; rw [← hcs]; unfold chgs; omega)
  have HCH := Lib.hid (changed_any HTW.out.ga HTW.out.gb HTW.out.la HTW.out.lb (by have := HTW.out.le; omega) (by have := HTW.out.le; omega) (fun k hk => tells_bound HTW.out.ta hk) (fun k hk => tells_bound HTW.out.tb hk))
  rw [← hcl] at HCH
  have ca := HTW.out.ca
  have cb := HTW.out.cb
  have la := lt_of_cell ca
  have lb := lt_of_cell cb
  clear hci hcn hcs hci2 hcl
  go_upto_region 14 with (go_at_call 12; refine HCH.out.mono ?_; rintro e V10 ⟨rfl, hb10⟩)
  have HTW2 := Lib.hid (HTW.out.up hb10)
  have HV10 : Hid (V9.heap.size ≤ V10.heap.size) := Lib.hid hb10.size
  clear hb10 ca cb la lb HCH HTW
  have d0 := HTW2.out.a.box.1
  have d1 := HTW2.out.a.box.2.1
  have d2 := HTW2.out.b.box.1
  have d3 := HTW2.out.b.box.2.1
  have la := HTW2.out.a.box.lt
  have lb := HTW2.out.b.box.lt
  simp only at d0 d1 d2 d3
  have HKY := Lib.hid (keys_any V10 T (ra6, rb6) (ra8, rb8))
  simp only at HKY
  go_upto_region 15 with (go_at_call 13; refine HKY.out.mono ?_; rintro e V11 ⟨rfl, hb11, hs11, q3, q4, q5⟩)
  have HTW := Lib.hid (HTW2.out.up hb11)
  have HQ := Lib.hid (And.intro q3 (And.intro q4 q5))
  obtain ⟨k3, hk3⟩ : ∃ g, V10.heap.size = g := ⟨_, rfl⟩
  rw [hk3] at HQ hs11 ⊢
  have HNK := Lib.hid (show V9.heap.size ≤ k3 ∧ V11.heap.size = k3 + 3 by have := HV10.out; omega)
  clear d0 d1 d2 d3 la lb HKY HTW2 HV10 hb11 hs11 hk3 q3 q4 q5
  go_upto_region 16 with (fail)
  have hal : Below V11.heap.size V11 (V11.alloc (.cells #[.int .i64 0] 3)) := (Below.refl _ _).alloc (Nat.le_refl _) _
  have hc21 := alloc_at V11 (.int .i64 0) 3
  have hsz : (V11.alloc (.cells #[.int .i64 0] 3)).heap.size = V11.heap.size + 1 := by simp
  refine wp_forget (fun U => TwoAt V U S T g13 g16 g14 g17 Ma Mb O8 st8 (ra6, rb6) (ra8, rb8) m1 m2 ps qs ∧ (U.cell? ⟨V11.heap.size, 0, none⟩ = some (.int .i64 0) ∧ U.frozen? ⟨V11.heap.size, 0, none⟩ = false) ∧ (U.cell? ⟨k3, 0, none⟩ = some (.pointer (some ⟨T, 0, none⟩)) ∧ BoxA U (k3 + 1) (ra6, rb6) ∧ BoxA U (k3 + 2) (ra8, rb8)) ∧ U.heap.size = V11.heap.size + 1)
    ⟨HTW.out.up hal, hc21, ⟨(hal.cell (lt_of_cell HQ.out.1)).trans HQ.out.1, HQ.out.2.1.off (S := fun _ => False) (Off.of_below hal) id, HQ.out.2.2.off (S := fun _ => False) (Off.of_below hal) id⟩, hsz⟩ ?_
  obtain ⟨g21, hg21⟩ : ∃ g, V11.heap.size = g := ⟨_, rfl⟩
  rw [hg21]
  have HNG := Lib.hid (show k3 + 3 = g21 ∧ V9.heap.size ≤ k3 by have := HNK.out; omega)
  clear hal hc21 hsz hg21 HTW HQ HNK
  rintro V12 ⟨htw, c21, hq, hs12⟩
  have HTW := Lib.hid htw
  have HQ := Lib.hid hq
  have H21 := Lib.hid c21
  have HS12 := Lib.hid hs12
  clear htw hq c21 hs12
  go_wp2_with fail
  have c7 : V12.cell? ⟨g7, 0, none⟩ = some (.int .i64 stop) := (HTW.out.a.l.bel.cell (p := ⟨g7, 0, none⟩) HC.out.1).trans HC.out.2.1
  have hn7 : g21 ≠ g7 := by have := HNE.out; have := HNG.out; omega
  have hn7' : g7 ≠ g21 := hn7.symm
  have C7 := Lib.hid c7
  clear c7
  refine (wpIn_wide (n := 9)).1 ?_
  refine range_keysB (S := S) (T := T) (O := O8) (st := st8) (Ov := fun k => k = g21 ∨ k = g7) rfl rfl HTW.out.a.l.tr HTW.out.a.l.inn HRD.out HTW.out.ta HTW.out.tb HTW.out.la HTW.out.lb (by have := HTW.out.le; omega) (by have := HTW.out.le; omega) HCS.out HQ.out.1 HQ.out.2.1 HQ.out.2.2
    (fStop stop) (fun x => x.2) (fun _ _ _ => rfl) (fun _ _ => True) (fun _ _ _ _ _ => trivial) (fun _ _ _ _ => trivial) (ivStop g21 V12 (· = g7)) 0 ?exit (fun {S O w w' x} h ho hs => h.off ho hs) (fun {O w x k} h hk => h.lt hk) (0, true) trivial rfl ⟨⟨H21.out.1, H21.out.2, fun k e => ⟨by rw [e]; exact lt_of_cell C7.out, rfl⟩⟩, fun k => Iff.rfl⟩ ?d1 ?d2 ?round ?fin
  case exit => exact fun a W h => wpIn_exit h
  case d1 =>
    intro k hk e
    have h1 := HO8.out.1 k hk
    have := HNE.out
    have := HNG.out
    omega
  case d2 =>
    intro e
    have := HO8.out
    have := HNE.out
    have := HNG.out
    omega
  case round =>
    intro l x e vs W1 O1 hO1 hl hnl hx _ ha
    obtain ⟨v1, v2, rfl, _, ⟨x1, x2, x3, rfl, _⟩, ⟨y1, y2, y3, rfl, _⟩, _⟩ := ha
    gi_wp2
    refine ⟨Below.refl _ _, fun W2 ho hiv _ => ?_⟩
    obtain ⟨⟨i1, i2, i3⟩, i4⟩ := hiv
    have i5 : W2.cell? ⟨g7, 0, none⟩ = some (.int .i64 stop) := (i3.cell rfl).trans C7.out
    have I3 := Lib.hid i3
    have I4 := Lib.hid i4
    have I1 := Lib.hid (And.intro i1 i2)
    have l21 := lt_of_cell i1
    have l7 := lt_of_cell i5
    obtain ⟨n, bb⟩ := x
    simp only at i1
    have hfin : ∀ n' : Int, ivStop g21 V12 (· = g7) (W2.setCell ⟨g21, 0, none⟩ (.int .i64 n')) O1 (n', bb) ∧ Off (fun k => O1 k ∨ W1.heap.size ≤ k) W2 (W2.setCell ⟨g21, 0, none⟩ (.int .i64 n')) := fun n' => by
      have ho1 : Off (· = g21) W2 (W2.setCell ⟨g21, 0, none⟩ (.int .i64 n')) := (Off.refl (· = g21) W2).setCell (p := ⟨g21, 0, none⟩) rfl _
      exact ⟨⟨⟨World.cell?_setCell_same _ _ _ I1.out.1, (World.frozen?_setCell _ _ _ _).trans I1.out.2, I3.out.off ho1 (fun k e e2 => hn7 (e.symm.trans e2))⟩, I4.out⟩, ho1.mono fun k e => .inl ((I4.out k).2 (.inl e))⟩
    have HFIN := Lib.hid hfin
    have hbo : ∀ n' b', ivStop g21 V12 (· = g7) (W2.setCell ⟨g21, 0, none⟩ (.int .i64 n')) O1 (n', b') := fun n' b' => (hfin n').1
    have HBO := Lib.hid hbo
    clear i3 i4 hfin hbo ho hO1
    by_cases hst : stop < wrap64 (n + 1)
    · have hd : decide (stop < wrap64 (n + 1)) = true := decide_eq_true hst
      have he : (fStop stop (n, bb) e).1 = (wrap64 (n + 1), false) := by show (wrap64 (n + 1), !decide (stop < wrap64 (n + 1))) = _; rw [hd]; rfl
      rw [he]
      clear he hst
      gi_wp2
      exact ⟨rfl, O1, ⟨rfl, HBO.out _ _⟩, (HFIN.out _).2, fun k e => .inl e⟩
    · have hd : decide (stop < wrap64 (n + 1)) = false := decide_eq_false hst
      have he : (fStop stop (n, bb) e).1 = (wrap64 (n + 1), true) := by show (wrap64 (n + 1), !decide (stop < wrap64 (n + 1))) = _; rw [hd]; rfl
      rw [he]
      clear he hst
      gi_wp2
      exact ⟨rfl, O1, HBO.out _ _, (HFIN.out _).2, fun k e => .inl e⟩
  case fin =>
    intro D W1 O1 hD hdf hky hof hO1 hOD hiv
    obtain ⟨s9, ht9, hk9, hr9⟩ := hky
    have hof2 : Off (fun k => O8 k ∨ k = g21) V12 W1 := hof.drop fun k e => by
      rcases e with e | e | e
      · exact .inl (.inl e)
      · exact .inl (.inr e)
      · exact .inr (hiv.1.2.2 k e).2
    have htw9 := HTW.out.getP ht9 hk9 hof2 (fun k e => by have := HNE.out; have := HNG.out; omega)
    have HTW9 := Lib.hid htw9
    have HRD9 := Lib.hid (hr9 0 HRD.out)
    have H219 := Lib.hid (And.intro hiv.1.1 hiv.1.2.1)
    have HQ9 := Lib.hid (show W1.cell? ⟨k3, 0, none⟩ = some (.pointer (some ⟨T, 0, none⟩)) ∧ BoxA W1 (k3 + 1) (ra6, rb6) ∧ BoxA W1 (k3 + 2) (ra8, rb8) from by
      have hn : ∀ k, V9.heap.size ≤ k → k ≠ g21 → ¬ (O8 k ∨ k = g21) := fun k h1 h2 e => e.elim (fun e => by have := HO8.out.1 k e; omega) h2
      have := HNG.out
      exact ⟨(hof2.cell (p := ⟨k3, 0, none⟩) (lt_of_cell HQ.out.1) (hn _ (by show _ ≤ k3; omega) (by show k3 ≠ _; omega))).trans HQ.out.1, HQ.out.2.1.off hof2 (hn _ (by omega) (by omega)), HQ.out.2.2.off hof2 (hn _ (by omega) (by omega))⟩)
    have HD9 := Lib.hid (show W1.heap[D]? = some (.deferred (some [])) ∧ g21 < D ∧ D < W1.heap.size from ⟨hdf, by have := HS12.out; omega, (Array.getElem?_eq_some_iff.1 hdf).1⟩)
    generalize (foldE (fStop stop) (0, true) cs).1 = y9 at *
    obtain ⟨n9, b9⟩ := y9
    have c21 := H219.out.1
    have f21 := H219.out.2
    have l21 := lt_of_cell c21
    simp only at c21
    clear hof hof2 htw9 ht9 hk9 hr9 hO1 hOD hiv hdf hD HTW HRD HQ H21 C7
    go_upto_region 20 with (fail)
    have hset : Off (· = g21) W1 (W1.setCell ⟨g21, 0, none⟩ (.int .i64 0)) := (Off.refl (· = g21) W1).setCell (p := ⟨g21, 0, none⟩) rfl _
    have hst := hset.step ((Below.refl _ _).alloc (Nat.le_refl _) (.cells #[.int .i64 (-1)] 3))
    have ns : ∀ k, k = g21 → Out O8 T k ∧ V.heap.size ≤ k ∧ k ≠ g13 ∧ k ≠ g16 ∧ k ≠ g14 ∧ k ≠ g17 ∧ k ≠ Ma ∧ k ≠ Mb := fun k e => by
      have := HNE.out
      have := HNG.out
      have := HO8.out.2
      exact ⟨⟨fun e2 => by have := HO8.out.1 k e2; omega, by omega⟩, by omega, by omega, by omega, by omega, by omega, by omega, by omega⟩
    have hq' : ∀ k, k = g21 → k ≠ k3 ∧ k ≠ k3 + 1 ∧ k ≠ k3 + 2 ∧ k ≠ D := fun k e => by have := HNG.out; have := HD9.out; omega
    have e21 : (W1.setCell ⟨g21, 0, none⟩ (.int .i64 0)).cell? ⟨g21, 0, none⟩ = some (.int .i64 0) := World.cell?_setCell_same _ _ _ c21
    have e21f : (W1.setCell ⟨g21, 0, none⟩ (.int .i64 0)).frozen? ⟨g21, 0, none⟩ = false := (World.frozen?_setCell _ _ _ _).trans f21
    have l21' := lt_of_cell e21
    have hsz1 := hset.size
    obtain ⟨U, hU⟩ : ∃ U, U = W1.setCell ⟨g21, 0, none⟩ (.int .i64 0) := ⟨_, rfl⟩
    rw [← hU] at hst e21 e21f l21' hset hsz1 ⊢
    have hal : Below U.heap.size U (U.alloc (.cells #[.int .i64 (-1)] 3)) := (Below.refl _ _).alloc (Nat.le_refl _) _
    have hc22 := alloc_at U (.int .i64 (-1)) 3
    have hp : TwoAt V (U.alloc (.cells #[.int .i64 (-1)] 3)) S T g13 g16 g14 g17 Ma Mb O8 (s9, st8.2) (ra6, rb6) (ra8, rb8) m1 m2 ps qs ∧ IvKB g21 U.heap.size (U.alloc (.cells #[.int .i64 (-1)] 3)) (fun k => k = g8 ∨ k = g14 ∨ k = g17 ∨ k = Ma ∨ k = Mb) (U.alloc (.cells #[.int .i64 (-1)] 3)) (-1) 0 ∧ ((U.alloc (.cells #[.int .i64 (-1)] 3)).cell? ⟨k3, 0, none⟩ = some (.pointer (some ⟨T, 0, none⟩)) ∧ BoxA (U.alloc (.cells #[.int .i64 (-1)] 3)) (k3 + 1) (ra6, rb6) ∧ BoxA (U.alloc (.cells #[.int .i64 (-1)] 3)) (k3 + 2) (ra8, rb8)) ∧ (U.alloc (.cells #[.int .i64 (-1)] 3)).heap[D]? = some (.deferred (some [])) ∧ (U.alloc (.cells #[.int .i64 (-1)] 3)).heap.size = U.heap.size + 1 := by
      refine ⟨HTW9.out.off hst ns, ⟨(hal.cell (p := ⟨g21, 0, none⟩) l21').trans e21, (hal.frozen (p := ⟨g21, 0, none⟩) l21').trans e21f, hc22.1, hc22.2, fun k e => ⟨?_, rfl⟩⟩, ⟨(hst.cell (p := ⟨k3, 0, none⟩) (lt_of_cell HQ9.out.1) (fun e => (hq' _ e).1 rfl)).trans HQ9.out.1, HQ9.out.2.1.off hst (fun e => (hq' _ e).2.1 rfl), HQ9.out.2.2.off hst (fun e => (hq' _ e).2.2.1 rfl)⟩, heap_off HD9.out.1 hst (fun e => (hq' _ e).2.2.2 rfl), by simp⟩
      have := HNE.out
      have := HNG.out
      have := hal.size
      omega
    obtain ⟨g22, hg22⟩ : ∃ g, U.heap.size = g := ⟨_, rfl⟩
    have HNU : Hid (U.heap.size = g22 ∧ g21 < D ∧ D < g22) := Lib.hid (by have := HD9.out; omega)
    clear hst hset hsz1 ns hq' e21 e21f l21' hal hc22 hU c21 f21 l21
    have HP := Lib.hid hp
    clear hp
    go_upto_region 21 with (fail)
    refine wp_forget (fun X => TwoAt V X S T g13 g16 g14 g17 Ma Mb O8 (s9, st8.2) (ra6, rb6) (ra8, rb8) m1 m2 ps qs ∧ IvKB g21 U.heap.size X (fun k => k = g8 ∨ k = g14 ∨ k = g17 ∨ k = Ma ∨ k = Mb) X (-1) 0 ∧ (X.cell? ⟨k3, 0, none⟩ = some (.pointer (some ⟨T, 0, none⟩)) ∧ BoxA X (k3 + 1) (ra6, rb6) ∧ BoxA X (k3 + 2) (ra8, rb8)) ∧ X.heap[D]? = some (.deferred (some [])) ∧ X.heap.size = U.heap.size + 1) HP.out ?_
    rw [hg22]
    clear HP hg22 HTW9 H219 HQ9 HD9
    rintro X ⟨htw, hkb, hq, hdf, hsx⟩
    have HTW := Lib.hid htw
    have HKB := Lib.hid hkb
    have HQ := Lib.hid hq
    have HDF := Lib.hid hdf
    have HSX := Lib.hid hsx
    clear htw hkb hq hdf hsx
    go_wp2_with fail
    have hN : ∀ k, (k = g21 ∨ k = g22 ∨ (k = g8 ∨ k = g14 ∨ k = g17 ∨ k = Ma ∨ k = Mb)) → ¬ O8 k ∧ k ≠ T := fun k e => by
      have h1 := HTW.out.out
      have := HNE.out
      have := HNG.out
      have h2 := HO8.out
      have := HNU.out
      have hx : ∀ k, V.heap.size ≤ k → V9.heap.size ≤ k ∨ True := fun _ _ => .inr trivial
      rcases e with e | e | e | e | e | e | e
      · exact ⟨fun e2 => by have := h2.1 k e2; omega, by omega⟩
      · exact ⟨fun e2 => by have := h2.1 k e2; omega, by omega⟩
      · exact ⟨fun e2 => by have := h2.1 k e2; omega, by omega⟩
      · rw [e]; exact ⟨h1.1.1, h1.1.2⟩
      · rw [e]; exact ⟨h1.2.1.1, h1.2.1.2⟩
      · rw [e]; exact ⟨h1.2.2.1.1, h1.2.2.1.2⟩
      · rw [e]; exact ⟨h1.2.2.2.1, h1.2.2.2.2⟩
    have HNN := Lib.hid hN
    clear hN
    refine (wpIn_wide (n := 9)).1 ?_
    refine range_keys (S := S) (T := T) (O := O8) (st := (s9, st8.2)) (Ov := fun k => k = g21 ∨ k = g22 ∨ (k = g8 ∨ k = g14 ∨ k = g17 ∨ k = Ma ∨ k = Mb)) rfl rfl HTW.out.a.l.tr HTW.out.a.l.inn HRD9.out HTW.out.ta HTW.out.tb HTW.out.la HTW.out.lb (by have := HTW.out.le; omega) (by have := HTW.out.le; omega) HCS.out HQ.out.1 HQ.out.2.1 HQ.out.2.2
      (fK m1 m2) (fun x => x.isSome) (fun x e hx => fK_al m1 m2 x e hx) (fun _ _ => True) (fun _ _ _ _ _ => trivial) (fun _ _ _ _ => trivial) (ivK g21 g22 X (fun k => k = g8 ∨ k = g14 ∨ k = g17 ∨ k = Ma ∨ k = Mb)) (fun _ w O1 _ => ∀ k, O1 k → k < w.heap.size) (fun {S O w w' x} h ho hs => h.off ho hs) (fun {O w x k} h hk => h.lt hk) (fun {c S O w w' x} h ho hs k hk => Nat.lt_of_lt_of_le (h k hk) ho.size) (fun {c O w x k} h hk => h k hk)
      (some (-1, 0)) trivial rfl ⟨⟨-1, 0, rfl, HKB.out⟩, fun k => Iff.rfl⟩ (fun k hk e => (HNN.out k e).1 hk) (fun e => (HNN.out T e).2 rfl) ?round ?fin
    case round =>
      intro l x e vs W1 O1 hO1 hl hnl hx _ ha
      obtain ⟨ck, o, wv⟩ := e
      obtain ⟨v1, v2, rfl, hck, ⟨x1, x2, x3, rfl, _, _⟩, ⟨y1, y2, y3, rfl, _, _⟩, _⟩ := ha
      simp only at hck
      gi_wp2
      refine ⟨(Below.refl W1.heap.size W1).alloc (Nat.le_refl _) _, fun W2 ho hiv hA => ?_⟩
      obtain ⟨v1, v2, e, _, ⟨_, _, _, rfl, _, hx5⟩, ⟨_, _, _, rfl, _, hy5⟩, _⟩ := hA
      simp only [Array.mk.injEq, List.cons.injEq, Value.agg.injEq, Value.slice.injEq, true_and, and_true] at e
      obtain ⟨⟨rfl, rfl, rfl⟩, rfl, rfl, rfl⟩ := e
      simp only at hx5 hy5
      have hsl : ∀ j u, [Value.int .i64 (ck : Nat), .slice x1 x2 x3, .slice y1 y2 y3, .bool o.isSome, .bool wv.isSome][j]? = some u → W2.cell? ⟨W1.heap.size, j, none⟩ = some u := fun j u hj => (ho.cell (p := ⟨W1.heap.size, j, none⟩) (by simp) (fun e => by have : W1.heap.size = l := e; omega)).trans ((Bx.new W1 40 [Value.int .i64 (ck : Nat), .slice x1 x2 x3, .slice y1 y2 y3, .bool o.isSome, .bool wv.isSome] (by simp)).c j u hj)
      have s0 := hsl 0 _ rfl
      have s1 := hsl 1 _ rfl
      have s2 := hsl 2 _ rfl
      have s3 := hsl 3 _ rfl
      have s4 := hsl 4 _ rfl
      have ls := lt_of_cell s0
      obtain ⟨⟨last, n, rfl, hkb⟩, hO⟩ := hiv
      have c21 := hkb.c21
      have c22 := hkb.c22
      have f21 := hkb.f21
      have f22 := hkb.f22
      have l21 := lt_of_cell c21
      have l22 := lt_of_cell c22
      have c14 := (hkb.kp.cell (o := 0) (g := g14) (.inr (.inl rfl))).trans HTW.out.ca
      have c17 := (hkb.kp.cell (o := 0) (g := g17) (.inr (.inr (.inl rfl)))).trans HTW.out.cb
      have l14 := lt_of_cell c14
      have l17 := lt_of_cell c17
      have hXc8 : X.cell? ⟨g8, 0, none⟩ = some (.bool false) := (HTW.out.a.l.bel.cell (p := ⟨g8, 0, none⟩) HC.out.2.2.2.2).trans HC.out.2.2.1
      have hXf8 : X.frozen? ⟨g8, 0, none⟩ = false := (HTW.out.a.l.bel.frozen (p := ⟨g8, 0, none⟩) HC.out.2.2.2.2).trans HC.out.2.2.2.1
      have c8 := (hkb.kp.cell (o := 0) (g := g8) (.inl rfl)).trans hXc8
      have f8 := (hkb.kp.frozen (o := 0) (g := g8) (.inl rfl)).trans hXf8
      have l8 := lt_of_cell c8
      have gA : GMap W2 Ma m1 ps.length := MapIs.of_block HTW.out.ga (hkb.kp Ma (.inr (.inr (.inr (.inl rfl))))).2
      have gB : GMap W2 Mb m2 qs.length := MapIs.of_block HTW.out.gb (hkb.kp Mb (.inr (.inr (.inr (.inr rfl))))).2
      have hlk1 := gA.look (key := (ck : Int)) (by omega)
      have hlk2 := gB.look (key := (ck : Int)) (by omega)
      rw [mI_nat] at hlk1 hlk2
      have cv1 := hx5.str x3
      have cv2 := hy5.str y3
      have hgi := good_iff o (m1 ck) wv (m2 ck)
      have n12 : g21 ≠ g22 := by have := HNU.out; omega
      have n21 : g22 ≠ g21 := n12.symm
      have HBAD : Hid (∀ (A : Act) (pb pc : Bool), bdPostG (fun x : Option (Int × Int) => x.isSome) (ivK g21 g22 X (fun k => k = g8 ∨ k = g14 ∨ k = g17 ∨ k = Ma ∨ k = Mb)) (fun _ w O1 _ => ∀ k, O1 k → k < w.heap.size) (fun k => O1 k ∨ W1.heap.size ≤ k) (fun k => O1 k ∨ ownC #[.agg #[.int .i64 (ck : Nat), .slice x1 x2 x3, .slice y1 y2 y3, .bool pb, .bool pc]] k ∨ W1.heap.size ≤ k) W2 none .ret A (W2.setCell ⟨g8, 0, none⟩ (.bool false))) := Lib.hid fun A pb pc =>
        ⟨rfl, O1, fun k hk => by have h1 := hO1 k hk; simp only [World.setCell] at *; simp; omega, (Off.refl _ W2).setCell (p := ⟨g8, 0, none⟩) (.inl ((hO g8).2 (.inr (.inr (.inl rfl))))) _, fun k e => .inl e⟩
      have HGOOD : Hid (∀ (A : Act) (pb pc : Bool), bdPostG (fun x : Option (Int × Int) => x.isSome) (ivK g21 g22 X (fun k => k = g8 ∨ k = g14 ∨ k = g17 ∨ k = Ma ∨ k = Mb)) (fun _ w O1 _ => ∀ k, O1 k → k < w.heap.size) (fun k => O1 k ∨ W1.heap.size ≤ k) (fun k => O1 k ∨ ownC #[.agg #[.int .i64 (ck : Nat), .slice x1 x2 x3, .slice y1 y2 y3, .bool pb, .bool pc]] k ∨ W1.heap.size ≤ k) W2 (some (((ck : Nat) : Int), wrap64 (n + 1))) .normal A ((W2.setCell ⟨g22, 0, none⟩ (.int .i64 (ck : Nat))).setCell ⟨g21, 0, none⟩ (.int .i64 (wrap64 (n + 1))))) := Lib.hid fun A pb pc => by
        have o1 : Off (fun k => k = g21 ∨ k = g22) W2 (W2.setCell ⟨g22, 0, none⟩ (.int .i64 (ck : Nat))) := (Off.refl _ W2).setCell (p := ⟨g22, 0, none⟩) (.inr rfl) _
        have o2 : Off (fun k => k = g21 ∨ k = g22) W2 ((W2.setCell ⟨g22, 0, none⟩ (.int .i64 (ck : Nat))).setCell ⟨g21, 0, none⟩ (.int .i64 (wrap64 (n + 1)))) := o1.setCell (p := ⟨g21, 0, none⟩) (.inl rfl) _
        refine ⟨rfl, O1, ⟨⟨_, _, rfl, ?_, ?_, ?_, ?_, hkb.kp.off o2 (fun k e e2 => by have := HNE.out; have := HNG.out; have := HNU.out; omega)⟩, hO⟩, o2.mono fun k e => .inl ((hO k).2 (e.imp id .inl)), fun k e => .inl e⟩
        · exact World.cell?_setCell_same _ _ _ ((World.cell?_setCell_other _ _ _ _ (fun e => by injection e with e _; exact n21 e)).trans c21)
        · rw [World.frozen?_setCell, World.frozen?_setCell]; exact f21
        · rw [World.cell?_setCell_other _ _ _ _ (fun e => by injection e with e _; exact n12 e)]
          exact World.cell?_setCell_same _ _ _ c22
        · rw [World.frozen?_setCell, World.frozen?_setCell]; exact f22
      have HFB : Hid (¬ (last < (ck : Int) ∧ o = m1 ck ∧ wv = m2 ck ∧ m1 ck ≠ m2 ck) → (fK m1 m2 (some (last, n)) (ck, o, wv)).1 = none) := Lib.hid fun h => by
        unfold fK
        dsimp only
        rw [if_neg h]
      have HFG : Hid ((last < (ck : Int) ∧ o = m1 ck ∧ wv = m2 ck ∧ m1 ck ≠ m2 ck) → (fK m1 m2 (some (last, n)) (ck, o, wv)).1 = some (((ck : Nat) : Int), wrap64 (n + 1))) := Lib.hid fun h => by
        unfold fK
        dsimp only
        rw [if_pos h]
        rfl
      have HGI := Lib.hid hgi
      clear hsl hkb hO hgi gA gB hXc8 hXf8 ho hO1
      have hse1 := strB_eq (o.getD []) ((m1 ck).getD [])
      have hse2 := strB_eq (wv.getD []) ((m2 ck).getD [])
      have hse3 := strB_eq ((m1 ck).getD []) ((m2 ck).getD [])
      generalize o.isSome = p1 at *
      generalize (m1 ck).isSome = q1 at *
      generalize wv.isSome = p2 at *
      generalize (m2 ck).isSome = q2 at *
      generalize o.getD [] = L1 at *
      generalize (m1 ck).getD [] = M1 at *
      generalize wv.getD [] = L2 at *
      generalize (m2 ck).getD [] = M2 at *
      by_cases hA : last < (ck : Int)
      case neg =>
        rw [HFB.out (fun h => hA h.1)]
        have hd : decide ((ck : Int) ≤ last) = true := decide_eq_true (by omega)
        clear hA hse1 hse2 hse3
        gi_wp2
        exact HBAD.out _ _ _
      have hd : decide ((ck : Int) ≤ last) = false := decide_eq_false (by omega)
      by_cases hB : p1 = q1
      case neg =>
        rw [HFB.out (fun h => hB (HGI.out.1 h.2).1)]
        have hcase : (p1 = true ∧ q1 = false) ∨ (p1 = false ∧ q1 = true) := by cases p1 <;> cases q1 <;> simp at hB ⊢
        clear hA hB hse1 hse2 hse3
        rcases hcase with ⟨rfl, rfl⟩ | ⟨rfl, rfl⟩
        · gi_wp2
          exact HBAD.out _ _ _
        · gi_wp2
          exact HBAD.out _ _ _
      subst hB
      by_cases hC : p2 = q2
      case neg =>
        rw [HFB.out (fun h => hC (HGI.out.1 h.2).2.1)]
        have hcase : (p2 = true ∧ q2 = false) ∨ (p2 = false ∧ q2 = true) := by cases p2 <;> cases q2 <;> simp at hC ⊢
        clear hA hC hse1 hse2 hse3
        rcases hcase with ⟨rfl, rfl⟩ | ⟨rfl, rfl⟩
        · gi_wp2
          exact HBAD.out _ _ _
        · gi_wp2
          exact HBAD.out _ _ _
      subst hC
      by_cases hD1 : L1 = M1
      case neg =>
        rw [HFB.out (fun h => hD1 (HGI.out.1 h.2).2.2.1)]
        rw [decide_eq_false hD1] at hse1
        clear hA hD1 hse2 hse3
        gi_wp2
        exact HBAD.out _ _ _
      rw [decide_eq_true hD1] at hse1
      by_cases hE1 : L2 = M2
      case neg =>
        rw [HFB.out (fun h => hE1 (HGI.out.1 h.2).2.2.2.1)]
        rw [decide_eq_false hE1] at hse2
        clear hA hD1 hE1 hse3
        gi_wp2
        exact HBAD.out _ _ _
      rw [decide_eq_true hE1] at hse2
      by_cases hF1 : p1 = p2
      case neg =>
        rw [HFG.out ⟨hA, HGI.out.2 ⟨rfl, rfl, hD1, hE1, fun h => hF1 h.1⟩⟩]
        have hcase : (p1 = true ∧ p2 = false) ∨ (p1 = false ∧ p2 = true) := by cases p1 <;> cases p2 <;> simp at hF1 ⊢
        clear hA hD1 hE1 hF1 hse3
        rcases hcase with ⟨rfl, rfl⟩ | ⟨rfl, rfl⟩
        · gi_wp2
          exact HGOOD.out _ _ _
        · gi_wp2
          exact HGOOD.out _ _ _
      subst hF1
      by_cases hG1 : M1 = M2
      case neg =>
        rw [HFG.out ⟨hA, HGI.out.2 ⟨rfl, rfl, hD1, hE1, fun h => hG1 h.2⟩⟩]
        rw [decide_eq_false hG1] at hse3
        clear hA hD1 hE1 hG1
        gi_wp2
        exact HGOOD.out _ _ _
      rw [HFB.out (fun h => (HGI.out.1 h.2).2.2.2.2 ⟨rfl, hG1⟩)]
      rw [decide_eq_true hG1] at hse3
      clear hA hD1 hE1 hG1
      gi_wp2
      exact HBAD.out _ _ _
    case fin =>
      intro D2 W2 O1 hD2 hdf2 hky2 hof2 hO12 hOD2
      obtain ⟨last', hfold⟩ := foldE_K (m := m1) (m' := m2) cs (-1) 0 HCI.out.up (fun c _ => by omega) (fun c hc => by
        obtain ⟨k, o, w⟩ := c
        exact (HCI.out.mem k o w).1 hc)
      rw [hfold]
      refine ⟨fun _ hiv => ?_, fun hal => by cases hal⟩
      obtain ⟨⟨last2, n2, hx, hkb2⟩, hO1⟩ := hiv
      injection hx with hx
      injection hx with hx1 hx2
      subst hx1 hx2
      obtain ⟨s10, ht10, hk10, hr10⟩ := hky2
      have hof3 : Off (fun k => O8 k ∨ (k = g21 ∨ k = g22)) X W2 := hof2.drop fun k e => by
        rcases e with e | e | e | e
        · exact .inl (.inl e)
        · exact .inl (.inr (.inl e))
        · exact .inl (.inr (.inr e))
        · exact .inr (hkb2.kp k e).2
      have HTWb := Lib.hid (HTW.out.getP ht10 hk10 hof3 (fun k e => by have := HNE.out; have := HNG.out; have := HNU.out; omega))
      have HRb : Hid (shK.Rdy s10 0) := Lib.hid (hr10 0 HRD9.out)
      have c21 := hkb2.c21
      rw [incN_small _ 0 (by omega) (by have := HCL.out; omega), Int.zero_add] at c21
      have hc8 := HC.out
      have c8 : W2.cell? ⟨g8, 0, none⟩ = some (.bool false) := (hkb2.kp.cell (.inl rfl)).trans ((HTW.out.a.l.bel.cell (p := ⟨g8, 0, none⟩) hc8.2.2.2.2).trans hc8.2.2.1)
      have f8 : W2.frozen? ⟨g8, 0, none⟩ = false := (hkb2.kp.frozen (.inl rfl)).trans ((HTW.out.a.l.bel.frozen (p := ⟨g8, 0, none⟩) hc8.2.2.2.2).trans hc8.2.2.2.1)
      have hnO : ∀ k, V9.heap.size ≤ k → ¬ O8 k := fun k h e => by have := HO8.out.1 k e; omega
      have hn8 : ¬ O8 g8 := fun e => by have := HO8.out.1 g8 e; have := HNE.out; omega
      have hdD : W2.heap[D]? = some (.deferred (some [])) := heap_off HDF.out hof3 (fun e => by
        have := HNU.out
        have := HNG.out
        rcases e with e | e | e
        · exact hnO D (by omega) e
        · omega
        · omega)
      have HDD := Lib.hid (And.intro hdf2 (And.intro hdD (show D2 ≠ D ∧ D2 ≠ g8 ∧ D ≠ g8 ∧ V9.heap.size ≤ D ∧ V9.heap.size ≤ D2 by have := HNU.out; have := HNG.out; have := HNE.out; have := HSX.out; omega)))
      have HNO := Lib.hid (And.intro hnO (And.intro hn8 (show ¬ O8 g21 from hnO g21 (by have := HNG.out; omega))))
      have H8 := Lib.hid (And.intro c8 f8)
      have d0 := HTWb.out.a.box.1
      have d1 := HTWb.out.a.box.2.1
      have d2 := HTWb.out.b.box.1
      have d3 := HTWb.out.b.box.2.1
      have la := HTWb.out.a.box.lt
      have lb := HTWb.out.b.box.lt
      simp only at d0 d1 d2 d3
      have HCT := Lib.hid (count_law HTWb.out.a.l HRb.out HTWb.out.ta HTWb.out.tb HTWb.out.la HTWb.out.lb (by have := HTWb.out.le; omega) (by have := HTWb.out.le; omega))
      simp only at HCT
      obtain ⟨nn, hnn⟩ : ∃ n, cs.length = n := ⟨_, rfl⟩
      rw [HCS.out, hnn] at HCT
      rw [hnn] at c21 ⊢
      have H21 := Lib.hid c21
      have HNN1 := Lib.hid hnn
      clear hnn
      clear hfold hkb2 ht10 hk10 hr10 hof3 hof2 hdf2 hO12 hOD2 hO1 c8 f8 c21 hc8 hnO hn8 hdD HTW HKB HQ HDF hD2
      go_upto_region 30 with (go_at_call 14; refine HCT.out.mono ?_; rintro e W3 ⟨rfl, s11, hk11⟩)
      have HTWc := Lib.hid (HTWb.out.get hk11.l hk11.off hk11.aft.sub)
      have HRc : Hid (shK.Rdy s11 0) := Lib.hid (hk11.rdy 0 HRb.out)
      have HO11 := Lib.hid hk11.off
      clear d0 d1 d2 d3 la lb HCT HTWb hk11
      have d0 := HTWc.out.a.box.1
      have d1 := HTWc.out.a.box.2.1
      have d2 := HTWc.out.b.box.1
      have d3 := HTWc.out.b.box.2.1
      have la := HTWc.out.a.box.lt
      have lb := HTWc.out.b.box.lt
      simp only at d0 d1 d2 d3
      have HCT := Lib.hid (dsame_law HTWc.out.a.l HRc.out HTWc.out.ta HTWc.out.tb HTWc.out.la HTWc.out.lb (by have := HTWc.out.le; omega) (by have := HTWc.out.le; omega))
      simp only at HCT
      rw [HCS.out, HNN1.out] at HCT
      go_upto_region 31 with (go_at_call 15; refine HCT.out.mono ?_; rintro e W4 ⟨rfl, s12, hk12⟩)
      have HO12 := Lib.hid (HO11.out.trans hk12.off)
      have HBE := Lib.hid hk12.l.bel
      clear d0 d1 d2 d3 la lb HCT HTWc hk12
      have c21 := (HO12.out.cell (p := ⟨g21, 0, none⟩) (lt_of_cell H21.out) HNO.out.2.2).trans H21.out
      have c8 := (HO12.out.cell (p := ⟨g8, 0, none⟩) (lt_of_cell H8.out.1) HNO.out.2.1).trans H8.out.1
      have f8 := (HO12.out.frozen (p := ⟨g8, 0, none⟩) (lt_of_cell H8.out.1) HNO.out.2.1).trans H8.out.2
      have l8 := lt_of_cell c8
      have l21 := lt_of_cell c21
      have hn0 : ((nn : Int) == 0) = decide (nn = 0) := by
        rcases Nat.eq_zero_or_pos nn with h | h
        · subst h; rfl
        · rw [decide_eq_false (by omega)]; simp; omega
      go_wp2
      have o5 : Off (· = g8) W4 (W4.setCell ⟨g8, 0, none⟩ (.bool true)) := (Off.refl (· = g8) W4).setCell (p := ⟨g8, 0, none⟩) rfl _
      have hd2 := heap_off (heap_off HDD.out.1 HO12.out (HNO.out.1 _ HDD.out.2.2.2.2.2.2)) o5 HDD.out.2.2.2.1
      have hd1 := heap_off (heap_off HDD.out.2.1 HO12.out (HNO.out.1 _ HDD.out.2.2.2.2.2.1)) o5 HDD.out.2.2.2.2.1
      have e8 : (W4.setCell ⟨g8, 0, none⟩ (.bool true)).cell? ⟨g8, 0, none⟩ = some (.bool true) := World.cell?_setCell_same _ _ _ c8
      have hbw : Below W.heap.size W (W4.setCell ⟨g8, 0, none⟩ (.bool true)) := (HBW.out.trans (HBE.out.mono HBW.out.size)).setCell (p := ⟨g8, 0, none⟩) HC8.out _
      generalize W4.setCell ⟨g8, 0, none⟩ (.bool true) = W5 at *
      have p2 := off_putObj W5 (l := D2) (.deferred none)
      have p1 := off_putObj (W5.putObj D2 (.deferred none)) (l := D) (.deferred none)
      have hle : W.heap.size ≤ V9.heap.size := by have := HNE.out; have := HBW.out.size; omega
      refine leaves_two HDD.out.2.2.1 hd2 hd1 (results_bool1 rfl _ _ g8 true rfl ((p1.cell (p := ⟨g8, 0, none⟩) (Nat.lt_of_lt_of_le (lt_of_cell e8) p2.size) (fun e => HDD.out.2.2.2.2.1 e.symm)).trans ((p2.cell (p := ⟨g8, 0, none⟩) (lt_of_cell e8) (fun e => HDD.out.2.2.2.1 e.symm)).trans e8))) ⟨rfl, (hbw.trans (p2.below (fun k e => ?_) hbw.size)).trans (p1.below (fun k e => ?_) (Nat.le_trans hbw.size p2.size))⟩
      · have := HDD.out.2.2.2.2.2.2; have e' : k = D2 := e; omega
      · have := HDD.out.2.2.2.2.2.1; have e' : k = D := e; omega
end Go.Proofs.Ytgkdggidgaifhaa
