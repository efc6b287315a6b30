/- A space: Fork. -/
import Derived.Test.YtlhfjaagkgengaaGreatVjZ
namespace Go.Proofs.YtlhfjaagkgengaaGreat
open Go.RowKit Go.Maps
set_option linter.unusedVariables false
set_option linter.unusedSimpArgs false
/-- Does a space have a page? -/
def hasI (m : Int → Option Int) (id : Int) : Prop := ∃ i, m i = some id
open Classical in
/-- One use more of each of a space's pages. -/
noncomputable def kpC (C : Cu) (m : Int → Option Int) : Cu := fun id => if hasI m id then (C id).map fun p => (p.1, p.2 + 1) else C id
theorem slF_of {m : Int → Option Int} {n : Nat} {l : List (Int × Int)} (h : SlOf m n l) : slF l = m := by
  have hl : l.take l.length = l := List.take_length
  funext i
  cases hm : m i with
  | none =>
    have := slF_none (l := l) l.length i (by
      rw [hl]
      rintro ⟨a, b⟩ hx e
      simp only at e
      subst e
      have := (h.mem a b).1 hx
      rw [hm] at this; cases this)
    rw [hl] at this
    exact this
  | some id =>
    have hmem := (h.mem i id).2 hm
    have key : ∀ (l : List (Int × Int)), l.Pairwise (fun x y => x.1 < y.1) → (i, id) ∈ l → slF l i = some id := by
      intro l hp
      have hgo : ∀ (l : List (Int × Int)) (m0 : Int → Option Int), l.Pairwise (fun x y => x.1 < y.1) → (((i, id) ∈ l) ∨ (m0 i = some id ∧ ∀ x ∈ l, x.1 ≠ i)) → l.foldl (fun m x => updM m x.1 (some x.2)) m0 i = some id := by
        intro l
        induction l with
        | nil => intro m0 _ h; rcases h with h | h; cases h; exact h.1
        | cons y l ih =>
          intro m0 hp h
          obtain ⟨h1, h2⟩ := List.pairwise_cons.1 hp
          rw [List.foldl_cons]
          refine ih _ h2 ?_
          rcases h with h | h
          · rcases List.mem_cons.1 h with e | h
            · right
              subst e
              exact ⟨updM_same _ _ _, fun x hx => by have := h1 x hx; simp only at this; omega⟩
            · exact .inl h
          · right
            refine ⟨?_, fun x hx => h.2 x (List.mem_cons_of_mem _ hx)⟩
            rw [updM_ne _ _ (fun e => h.2 y List.mem_cons_self e.symm)]
            exact h.1
      intro hm
      exact hgo l _ hp (.inl hm)
    exact key l h.up hmem
theorem keepC_of {C : Cu} {m : Int → Option Int} {n : Nat} {l : List (Int × Int)} (h : SlOf m n l) (hinj : ∀ i j id, m i = some id → m j = some id → i = j) : keepC C l = kpC C m := by
  have hgo : ∀ (l : List (Int × Int)) (C : Cu) (id : Int), l.Pairwise (fun x y => x.1 < y.1) → (∀ x ∈ l, ∀ y ∈ l, x.2 = y.2 → x.1 = y.1) →
      keepC C l id = if (∃ x ∈ l, x.2 = id) then (C id).map (fun p => (p.1, p.2 + 1)) else C id := by
    intro l
    induction l with
    | nil => intro C id _ _; rw [if_neg (by rintro ⟨x, hx, _⟩; cases hx)]; rfl
    | cons y l ih =>
      intro C id hp hd
      obtain ⟨h1, h2⟩ := List.pairwise_cons.1 hp
      have ih2 := ih (updU C y.2 ((C y.2).map fun p => (p.1, p.2 + 1))) id h2 (fun a ha b hb => hd a (List.mem_cons_of_mem _ ha) b (List.mem_cons_of_mem _ hb))
      rw [show keepC C (y :: l) id = keepC (updU C y.2 ((C y.2).map fun p => (p.1, p.2 + 1))) l id from rfl, ih2]
      by_cases e : id = y.2
      · have hn : ¬ ∃ x ∈ l, x.2 = id := by
          rintro ⟨x, hx, e2⟩
          have e3 := hd x (List.mem_cons_of_mem _ hx) y List.mem_cons_self (by rw [e2, e])
          have := h1 x hx
          omega
        rw [if_neg hn, e, updU_same, if_pos ⟨y, List.mem_cons_self, rfl⟩]
      · rw [updU_ne _ _ e]
        by_cases c : ∃ x ∈ l, x.2 = id
        · rw [if_pos c]
          obtain ⟨x, hx, e2⟩ := c
          rw [if_pos ⟨x, List.mem_cons_of_mem _ hx, e2⟩]
        · rw [if_neg c, if_neg]
          rintro ⟨x, hx, e2⟩
          rcases List.mem_cons.1 hx with rfl | hx
          · exact e e2.symm
          · exact c ⟨x, hx, e2⟩
  funext id
  rw [hgo l C id h.up (fun x hx y hy e => hinj x.1 y.1 x.2 ((h.mem x.1 x.2).1 hx) (by rw [e]; exact (h.mem y.1 y.2).1 hy))]
  unfold kpC
  by_cases c : hasI m id
  · rw [if_pos c]
    obtain ⟨i, hi⟩ := c
    rw [if_pos ⟨(i, id), (h.mem i id).2 hi, rfl⟩]
  · rw [if_neg c, if_neg]
    rintro ⟨x, hx, e⟩
    exact c ⟨x.1, by rw [← e]; exact (h.mem x.1 x.2).1 hx⟩
section
variable {σ : Type} {K : SnkF σ} {M : Snk K} {P : PSnk K} {w w' w1 w2 w3 wr : World} {d : PD} {t t' t1 t2 t3 : PSt σ} {C C' C1 : Cu} {k k1 k2 : Nat} {D : SpD} {A : Option Addr} {cap n : Nat} {L : List Rg} {m m1 : Int → Option Int}
/-- Fork's answer. -/
def FkPost (M : Snk K) (P : PSnk K) (w : World) (d : PD) (t : PSt σ) (C : Cu) (k : Nat) (D : SpD) (L : List Rg) (m : Int → Option Int) (n : Nat) (e : Ending) (w' : World) : Prop :=
  ∃ X Mm A' cap' t', e = .returned (.pointer (some ⟨X, 0, none⟩)) ∧ SS M P w' d t' (kpC C m) k ⟨X, Mm, d.Q, D.cf, D.pg, D.rg, D.ps⟩ A' cap' L m n ∧ Nx P w w' d t t' ∧ t'.nx = t.nx ∧
    ∀ q, spO ⟨X, Mm, d.Q, D.cf, D.pg, D.rg, D.ps⟩ A' L.length q → w.heap.size ≤ q
theorem fork_of (h : SS M P w d t C k D A cap L m n) (hn : n ≤ 100000) (hinj : ∀ i j id, m i = some id → m j = some id → i = j) (hkr : ∀ i id, m i = some id → i64R i) (hu : ∀ i id b u, m i = some id → C id = some (b, u) → 0 ≤ u ∧ u ≤ 500000) (hR : rightL D.ps L = true) (hLn : L.length ≤ D.rg) (hF : ∀ i id, m i = some id → findB L i = true)
    {B : Option Addr} {cB : Nat} {l : List (Int × Int)} (hl : SlOf m n l) (hf : FrE slE w w1 (.slice B n cB) l) :
    Calls Tryz.prog 23 #[cfgV D.cf, .pointer (some ⟨D.Q, 0, none⟩), .slice A L.length cap, .slice B n cB] w1 fun e w2 => ∃ X, e = .returned (.tuple #[.pointer (some ⟨X, 0, none⟩), .int .i64 0]) ∧ FkPost M P w d t C k D L m n (.returned (.pointer (some ⟨X, 0, none⟩))) w2 := by
  have hs1 := h.up hf.2
  have hll : l.length = n := hl.len
  have hO : ∀ q, w.heap.size ≤ q → ¬ Own d t q := fun q hq ho => by have := h.pv.lt ho; omega
  have hof := of_b (B := B) (l := l) (cf := D.cf) (pg := D.pg) (rg := D.rg) (ps := D.ps) hs1.pv ⟨h.ok.e4, h.ok.e7, h.ok.e8, h.ok.b4, h.ok.b7, h.ok.b8⟩ h.z cap cB hs1.sp.row h.len hf.1.rg (by omega)
    (fun x hx => ⟨hkr x.1 x.2 ((hl.mem x.1 x.2).1 hx), by
      obtain ⟨p, hp⟩ := h.has x.1 x.2 ((hl.mem x.1 x.2).1 hx)
      exact h.pv.idb hp⟩) (fun x hx b u => hu x.1 x.2 b u ((hl.mem x.1 x.2).1 hx)) (fun q hq => h.sep q (.inr (.inr hq))) (fun q hq => hO q (hf.1.lt (hf.1.own hq)).1)
  rw [hll] at hof
  rw [h.q]
  refine hof.mono ?_
  rintro e w2 (⟨hbad, rfl, _⟩ | ⟨h1, h2, X, Mm, A', cap', t', rfl, hss, hnx, he, hnew⟩)
  · exfalso
    rcases hbad with hb | hb
    · have : shapedB D.ps D.rg L l = true := by
        refine shaped_yes hR hLn fun i hi => ?_
        obtain ⟨x, hx⟩ : ∃ x, l[i]? = some x := ⟨_, List.getElem?_eq_getElem hi⟩
        have hfx := hF x.1 x.2 ((hl.mem x.1 x.2).1 (List.mem_of_getElem? hx))
        cases i with
        | zero => exact slot_zero hx hfx
        | succ j =>
          obtain ⟨y, hy⟩ : ∃ y, l[j]? = some y := ⟨_, List.getElem?_eq_getElem (by omega)⟩
          rw [slot_succ hx hy hfx]
          have a1 := List.getElem?_eq_some_iff.1 hx
          have a2 := List.getElem?_eq_some_iff.1 hy
          have := List.pairwise_iff_getElem.1 hl.up j (j + 1) a2.1 a1.1 (by omega)
          rw [a1.2, a2.2] at this
          exact decide_eq_true this
      rw [this] at hb; cases hb
    · rw [List.any_eq_true] at hb
      obtain ⟨x, hx, hx2⟩ := hb
      obtain ⟨p, hp⟩ := h.has x.1 x.2 ((hl.mem x.1 x.2).1 hx)
      rw [hp] at hx2
      cases hx2
  · rw [keepC_of hl hinj, slF_of hl, hll] at hss
    refine ⟨X, rfl, X, Mm, A', cap', t', rfl, hss, (Nx.refl.up hf.2).trans hnx, he, fun q hq => Nat.le_trans hf.2.size (hnew q hq)⟩
set_option maxRecDepth 100000 in
set_option maxHeartbeats 4000000 in
theorem fork_b (h : SS M P w d t C k D A cap L m n) (hn : n ≤ 100000) (hinj : ∀ i j id, m i = some id → m j = some id → i = j) (hkr : ∀ i id, m i = some id → i64R i) (hu : ∀ i id b u, m i = some id → C id = some (b, u) → 0 ≤ u ∧ u ≤ 500000) (hR : rightL D.ps L = true) (hLn : L.length ≤ D.rg) (hF : ∀ i id, m i = some id → findB L i = true) :
    Calls Tryz.prog 32 #[.pointer (some ⟨D.X, 0, none⟩)] w (FkPost M P w d t C k D L m n) := by
  have HSL : Hid (∀ V, Below w.heap.size w V → Calls Tryz.prog 19 #[.pointer (some ⟨D.X, 0, none⟩)] V fun e w' => ∃ B cB l, SlOf m n l ∧ e = .returned (.slice B n cB) ∧ FrE slE w w' (.slice B n cB) l) := Lib.hid fun V hb => (slots_b (h.sp.up hb) hn).mono fun e w' ⟨B, cB, l, hl, he, hf⟩ => ⟨B, cB, l, hl, he, hf.1.mono hb.size, hb.trans (hf.2.mono hb.size)⟩
  have HFK : Hid (∀ w1 B cB l, SlOf m n l → FrE slE w w1 (.slice B n cB) l → Calls Tryz.prog 23 #[cfgV D.cf, .pointer (some ⟨D.Q, 0, none⟩), .slice A L.length cap, .slice B n cB] w1 fun e w2 => ∃ X, e = .returned (.tuple #[.pointer (some ⟨X, 0, none⟩), .int .i64 0]) ∧ FkPost M P w d t C k D L m n (.returned (.pointer (some ⟨X, 0, none⟩))) w2) :=
    Lib.hid fun w1 B cB l hl hf => fork_of h hn hinj hkr hu hR hLn hF hl hf
  have hS : ∀ V, Below w.heap.size w V → (V.cell? ⟨D.X, 0, none⟩ = some (.int .i64 (D.cf 0)) ∧ V.cell? ⟨D.X, 1, none⟩ = some (.int .i64 (D.cf 1)) ∧ V.cell? ⟨D.X, 2, none⟩ = some (.int .i64 (D.cf 2)) ∧ V.cell? ⟨D.X, 3, none⟩ = some (.int .i64 (D.cf 3)) ∧ V.cell? ⟨D.X, 4, none⟩ = some (.int .i64 (D.cf 4)) ∧ V.cell? ⟨D.X, 5, none⟩ = some (.int .i64 (D.cf 5)) ∧ V.cell? ⟨D.X, 6, none⟩ = some (.int .i64 (D.cf 6)) ∧
      V.cell? ⟨D.X, 7, none⟩ = some (.int .i64 (D.cf 7)) ∧ V.cell? ⟨D.X, 8, none⟩ = some (.int .i64 (D.cf 8)) ∧ V.cell? ⟨D.X, 9, none⟩ = some (.pointer (some ⟨D.Q, 0, none⟩)) ∧ V.cell? ⟨D.X, 10, none⟩ = some (.slice A L.length cap)) := fun V hb => by
    have hs := h.sp.up hb
    exact ⟨hs.cc 0 (by omega), hs.cc 1 (by omega), hs.cc 2 (by omega), hs.cc 3 (by omega), hs.cc 4 (by omega), hs.cc 5 (by omega), hs.cc 6 (by omega), hs.cc 7 (by omega), hs.cc 8 (by omega), hs.c9, hs.c10⟩
  have lX := h.sp.ltX
  have hX : ¬ Own d t D.X := h.sep _ (.inl rfl)
  have hS2 : ∀ V t', Nx P w V d t t' → (V.cell? ⟨D.X, 0, none⟩ = some (.int .i64 (D.cf 0)) ∧ V.cell? ⟨D.X, 1, none⟩ = some (.int .i64 (D.cf 1)) ∧ V.cell? ⟨D.X, 2, none⟩ = some (.int .i64 (D.cf 2)) ∧ V.cell? ⟨D.X, 3, none⟩ = some (.int .i64 (D.cf 3)) ∧ V.cell? ⟨D.X, 4, none⟩ = some (.int .i64 (D.cf 4)) ∧ V.cell? ⟨D.X, 5, none⟩ = some (.int .i64 (D.cf 5)) ∧ V.cell? ⟨D.X, 6, none⟩ = some (.int .i64 (D.cf 6)) ∧
      V.cell? ⟨D.X, 7, none⟩ = some (.int .i64 (D.cf 7)) ∧ V.cell? ⟨D.X, 8, none⟩ = some (.int .i64 (D.cf 8)) ∧ V.cell? ⟨D.X, 9, none⟩ = some (.pointer (some ⟨D.Q, 0, none⟩)) ∧ V.cell? ⟨D.X, 10, none⟩ = some (.slice A L.length cap)) := fun V t' hx => by
    have key : ∀ i, V.cell? ⟨D.X, i, none⟩ = w.cell? ⟨D.X, i, none⟩ := fun i => hx.off.cell (p := ⟨D.X, i, none⟩) lX hX
    have hs := h.sp
    simp only [key]
    exact ⟨hs.cc 0 (by omega), hs.cc 1 (by omega), hs.cc 2 (by omega), hs.cc 3 (by omega), hs.cc 4 (by omega), hs.cc 5 (by omega), hs.cc 6 (by omega), hs.cc 7 (by omega), hs.cc 8 (by omega), hs.c9, hs.c10⟩
  unfold cfgV at HFK
  generalize D.cf 0 = x0 at *
  generalize D.cf 1 = x1 at *
  generalize D.cf 2 = x2 at *
  generalize D.cf 3 = x3 at *
  generalize D.cf 4 = x4 at *
  generalize D.cf 5 = x5 at *
  generalize D.cf 6 = x6 at *
  generalize D.cf 7 = x7 at *
  generalize D.cf 8 = x8 at *
  have HS := Lib.hid hS
  have HS2 := Lib.hid hS2
  have KS := Lib.hid (hS _ (Below.refl _ _))
  clear h hinj hkr hu hR hLn hF hS hS2 hX
  go_enter Tryz.func32, Tryz.ntmps32
  go_upto_region 1 with (fail)
  go_region_held3 (fun V => V.cell? ⟨D.X, 0, none⟩ = some (.int .i64 x0) ∧ V.cell? ⟨D.X, 1, none⟩ = some (.int .i64 x1) ∧ V.cell? ⟨D.X, 2, none⟩ = some (.int .i64 x2) ∧ V.cell? ⟨D.X, 3, none⟩ = some (.int .i64 x3) ∧ V.cell? ⟨D.X, 4, none⟩ = some (.int .i64 x4) ∧ V.cell? ⟨D.X, 5, none⟩ = some (.int .i64 x5) ∧ V.cell? ⟨D.X, 6, none⟩ = some (.int .i64 x6) ∧
      V.cell? ⟨D.X, 7, none⟩ = some (.int .i64 x7) ∧ V.cell? ⟨D.X, 8, none⟩ = some (.int .i64 x8) ∧ V.cell? ⟨D.X, 9, none⟩ = some (.pointer (some ⟨D.Q, 0, none⟩)) ∧ V.cell? ⟨D.X, 10, none⟩ = some (.slice A L.length cap))
    (first | exact KS.out | exact HS.out _ ((Below.refl _ _).drew) | go_keep)
    (first
      | (go_at_call 19; (with_reducible refine (HSL.out _ (by first | exact (Below.refl _ _).drew | exact Below.refl _ _)).mono ?_); rintro e w3 ⟨B, cB, l, hl, rfl, hf⟩; have HL1 := Lib.hid hl; have HF1 := Lib.hid hf; have KS := Lib.hid (HS.out _ hf.2); clear hl hf)
      | (go_at_call 23; (with_reducible refine (HFK.out w3 B cB l HL1.out HF1.out).mono ?_); rintro e w4 ⟨X, rfl, hfk⟩; have HP := Lib.hid hfk; obtain ⟨_, _, _, _, _, _, _, hx, _⟩ := hfk; have KS := Lib.hid (HS2.out _ _ hx); clear hx))
  all_goals
    go_wp2
    go_ret
    exact HP.out
end
end Go.Proofs.YtlhfjaagkgengaaGreat
