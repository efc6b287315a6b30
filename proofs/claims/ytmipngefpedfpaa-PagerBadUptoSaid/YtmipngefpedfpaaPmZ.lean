/- A pager: Make, Bring, Pages. -/
import Derived.Test.YtmipngefpedfpaaPlZ
namespace Go.Proofs.Ytmipngefpedfpaa
open Go.RowKit Go.Maps
set_option linter.unusedVariables false
set_option linter.unusedSimpArgs false

section
variable {σ : Type} {K : SnkF σ} {M : Snk K} {P : PSnk K} {w w' w1 w2 w3 w4 w5 : World} {d : PD} {t t' t1 t2 : PSt σ} {id : Int} {x : Pg} {j : Nat} {z k1 k2 : Nat} {E : Int → Prop}
theorem PgAt.new (w : World) (z : Nat) (a : Int × Int) (p o : Bool) (u : Int) : PgAt (w.alloc (.cells #[.slice none 0 0, .int .i64 a.1, .int .i64 a.2, .bool p, .bool o, .int .i64 u] 74)) z ⟨w.heap.size, none, a, p, o, u⟩ := by
  have hc : ∀ k v, (#[.slice none 0 0, .int .i64 a.1, .int .i64 a.2, .bool p, .bool o, .int .i64 u] : Array Value)[k]? = some v → (w.alloc (.cells #[.slice none 0 0, .int .i64 a.1, .int .i64 a.2, .bool p, .bool o, .int .i64 u] 74)).cell? ⟨w.heap.size, k, none⟩ = some v := fun k v hv => by
    rw [cell_of_row _ _ _ _ _ _ (heap_alloc_new w _)]; exact hv
  refine ⟨hc 0 _ rfl, hc 1 _ rfl, hc 2 _ rfl, hc 3 _ rfl, hc 4 _ rfl, hc 5 _ rfl, fun k => ?_, fun B c L e => by cases e⟩
  unfold World.frozen?
  rw [heap_alloc_new]
  simp
/-- A page that nobody knows yet: the step. -/
theorem virt_stp (hK : K.Good) (h : PgrAt M w d t) (hi : PI P d t) (h0 : t.hole = none) (hb : Below w.heap.size w w1) (hp : PgAt w1 d.z x) (hbb : x.bb = none) (hX : w.heap.size ≤ x.X) (hpz : x.put = true → x.zero = true → P.rd t.s x.at_ = some (zeros d.z)) (hz : x.put = true ∨ x.zero = true) :
    Stp M P w w1 d t { t with pm := updP t.pm t.nx (some x), hole := some (t.nx : Int) } ∧ Ev P d.z 0 (· = (t.nx : Int)) t { t with pm := updP t.pm t.nx (some x), hole := some (t.nx : Int) } := by
  have hn := pm_next hi h0
  have hnew : ∀ k, x.blk k → ¬ ownP d t.pm k ∧ ¬ t.O k := fun k hk => by
    rcases hk with rfl | ⟨c, L, e⟩
    · exact own_new h hX
    · rw [hbb] at e; cases e
  refine ⟨⟨(h.up hb).virt h0 hn hp hnew, pi_virt hi h0 hbb hpz hz, Off.of_below hb, fun k hk => ?_⟩, fun i he hi => (updP_ne _ _ he).trans hi, fun i y he hy => ⟨y, (updP_ne _ _ he).trans hy, rfl, rfl, rfl, fun h => ⟨h, rfl⟩, fun L hL => hL⟩, SubR.refl _, Nat.le_refl _, fun _ => rfl, fun h => h, fun n h => h⟩
  rcases hk with hk | hk
  · rcases hk with e | e | e | e | e | ⟨i, y, hy, hb⟩
    · exact .inl (.inl (.inl e))
    · exact .inl (.inl (.inr (.inl e)))
    · exact .inl (.inl (.inr (.inr (.inl e))))
    · exact .inl (.inl (.inr (.inr (.inr (.inl e)))))
    · exact .inl (.inl (.inr (.inr (.inr (.inr (.inl e))))))
    · have hy' : (if i = (t.nx : Int) then some x else t.pm i) = some y := hy
      split at hy'
      · cases hy'
        rcases hb with rfl | ⟨c, L, e⟩
        · exact .inr hX
        · rw [hbb] at e; cases e
      · exact .inl (.inl (.inr (.inr (.inr (.inr (.inr ⟨i, y, hy', hb⟩))))))
  · exact .inl (.inr hk)
/-- A page more. -/
structure Mk {σ : Type} {K : SnkF σ} (P : PSnk K) (z k : Nat) (t t' : PSt σ) (y : Pg) : Prop where
  ev : Ev P z k (· = (t.nx : Int)) t t'
  pg : t'.pm t.nx = some y
  nx : t'.nx = t.nx + 1
  hole : t'.hole = none
  cm : t'.cm = t.cm + 1
def MkPost (M : Snk K) (P : PSnk K) (w : World) (d : PD) (t : PSt σ) (a : Int × Int) (p o : Bool) (e : Ending) (w' : World) : Prop :=
  ∃ t' y, e = .returned (.int .i64 (t.nx : Nat)) ∧ Stp M P w w' d t t' ∧ Mk P d.z 0 t t' y ∧ y.bb = none ∧ y.at_ = a ∧ y.put = p ∧ y.zero = o ∧ y.uses = 0 ∧ t'.s = t.s
theorem mk_done (hK : K.Good) (h : PgrAt M w d t) (hi : PI P d t) (h0 : t.hole = none) (hn : t.nx < 4611686018427387904) (a : Int × Int) (p o : Bool) (hb : Below w.heap.size w w1) (hpz : p = true → o = true → P.rd t.s a = some (zeros d.z)) (hz : p = true ∨ o = true) :
    Calls Try.prog 27 #[.pointer (some ⟨d.Q, 0, none⟩), .pointer (some ⟨w1.heap.size, 0, none⟩)] (w1.alloc (.cells #[.slice none 0 0, .int .i64 a.1, .int .i64 a.2, .bool p, .bool o, .int .i64 0] 74)) (MkPost M P w d t a p o) := by
  obtain ⟨S, E⟩ := virt_stp (x := ⟨w1.heap.size, none, a, p, o, 0⟩) hK h hi h0 (hb.alloc hb.size _) (PgAt.new w1 d.z a p o 0) rfl hb.size hpz hz
  refine (add_any S.at_ S.inv rfl (updP_same _ _ _) hn).mono ?_
  rintro e w' ⟨_, rfl, S2⟩
  exact ⟨_, ⟨w1.heap.size, none, a, p, o, 0⟩, rfl, S.trans S2, ⟨⟨E.no, E.pg, E.sub, E.cnt, E.keep, E.room, E.rdy⟩, updP_same _ _ _, rfl, rfl, rfl⟩, rfl, rfl, rfl, rfl, rfl, rfl⟩
set_option maxRecDepth 100000 in
set_option maxHeartbeats 1000000 in
theorem make_any (hK : K.Good) (h : PgrAt M w d t) (hi : PI P d t) (h0 : t.hole = none) (hn : t.nx < 4611686018427387904) :
    Calls Try.prog 11 #[.pointer (some ⟨d.Q, 0, none⟩)] w (MkPost M P w d t (0, 0) false true) := by
  have HA := Lib.hid (mk_done hK h hi h0 hn (0, 0) false true (Below.refl _ _) (fun e => by cases e) (.inr rfl))
  clear h hi h0
  go_enter Try.func11, Try.ntmps11
  go_wp2_with fail
  refine HA.out.mono ?_
  rintro e w1 ⟨t1, y, rfl, h1⟩
  have H1 := Lib.hid h1
  clear h1 HA
  go_wp2
  go_ret
  exact ⟨t1, y, rfl, H1.out⟩
set_option maxRecDepth 100000 in
set_option maxHeartbeats 1000000 in
theorem bringA_any (hK : K.Good) (h : PgrAt M w d t) (hi : PI P d t) (h0 : t.hole = none) (hn : t.nx < 4611686018427387904) (a : Int × Int) :
    Calls Try.prog 24 #[.pointer (some ⟨d.Q, 0, none⟩), addrV a] w (MkPost M P w d t a true false) := by
  have hb : Below w.heap.size w (w.alloc (.cells #[.int .i64 a.1, .int .i64 a.2] 40)) := (Below.refl _ _).alloc (Nat.le_refl _) _
  have hf : true = true → false = true → P.rd t.s a = some (zeros d.z) := fun _ e => by cases e
  have ha := mk_done hK h hi h0 hn a true false hb hf (.inl rfl)
  have e1 : (w.alloc (.cells #[.int .i64 a.1, .int .i64 a.2] 40)).heap.size = w.heap.size + 1 := by simp
  rw [e1] at ha
  have HA := Lib.hid ha
  clear h hi h0 hb hf ha e1
  unfold addrV
  go_enter Try.func24, Try.ntmps24
  go_wp2_with fail
  refine HA.out.mono ?_
  rintro e w1 ⟨t1, y, rfl, h1⟩
  have H1 := Lib.hid h1
  clear h1 HA
  go_wp2
  go_ret
  exact ⟨t1, y, rfl, H1.out⟩
set_option maxRecDepth 100000 in
set_option maxHeartbeats 1000000 in
theorem pages_any (h : PgrAt M w d t) : Calls Try.prog 20 #[.pointer (some ⟨d.Q, 0, none⟩)] w fun e w' => e = .returned (.int .i64 (t.cm : Nat)) ∧ w = w' := by
  have q4 := h.q4
  have hl := fun ty => MapIs.len h.mp Try.underlying68 ty
  clear h
  go_enter Try.func20, Try.ntmps20
  go_wp2
  go_ret
  exact ⟨rfl, rfl⟩
end
end Go.Proofs.Ytmipngefpedfpaa
