/- A space: Close. -/
import Derived.Test.YtlhfjaagkgengaaGreatVfZ
namespace Go.Proofs.YtlhfjaagkgengaaGreat
open Go.RowKit Go.Maps
set_option linter.unusedVariables false
set_option linter.unusedSimpArgs false
section
variable {σ : Type} {K : SnkF σ} {M : Snk K} {P : PSnk K} {w w' w1 w2 w3 wr : World} {d : PD} {t t' t1 t2 t3 : PSt σ} {C C' C1 : Cu} {k k1 k2 : Nat} {D : SpD} {A : Option Addr} {cap n : Nat} {L : List Rg} {m m1 : Int → Option Int}
/-- Close's answer. -/
def ClPost (M : Snk K) (P : PSnk K) (w : World) (d : PD) (t : PSt σ) (C : Cu) (k : Nat) (D : SpD) (m : Int → Option Int) (e : Ending) (w' : World) : Prop :=
  ∃ t', e = .returned (.tuple #[]) ∧ Nxs P (fun k => k = D.Mm ∨ k = D.X) w w' d t t' ∧ t'.nx = t.nx ∧ SS M P w' d t' (loC C m (fun _ => True)) k D none 0 [] (fun _ => none) 0
theorem close_set (h : SpAt w D A cap L m n) : SpAt (w.setCell ⟨D.X, 10, none⟩ (.slice none 0 0)) D none 0 [] m n ∧ Off (· = D.X) w (w.setCell ⟨D.X, 10, none⟩ (.slice none 0 0)) := by
  have ho : Off (· = D.X) w (w.setCell ⟨D.X, 10, none⟩ (.slice none 0 0)) := (Off.refl (· = D.X) w).setCell (p := ⟨D.X, 10, none⟩) rfl _
  have ne : ∀ a, a ≠ 10 → (⟨D.X, a, none⟩ : Addr) ≠ ⟨D.X, 10, none⟩ := fun a h e => by injection e with _ e; exact h e
  have co : ∀ a, a ≠ 10 → (w.setCell ⟨D.X, 10, none⟩ (.slice none 0 0)).cell? ⟨D.X, a, none⟩ = w.cell? ⟨D.X, a, none⟩ := fun a ha => World.cell?_setCell_other _ _ _ _ (fun e => ne a ha e.symm)
  exact ⟨⟨fun i hi => (co i (by omega)).trans (h.cc i hi), (co 9 (by omega)).trans h.c9, World.cell?_setCell_same _ _ _ h.c10, (co 11 (by omega)).trans h.c11, fun k => by rw [World.frozen?_setCell]; exact h.fz k,
    RgAt.nil _ _, h.mp.off ho (fun e => h.neM e.symm), h.neM, ⟨fun e => by have := e.1; simp at this, fun e => by have := e.1; simp at this⟩⟩, ho⟩
set_option maxRecDepth 100000 in
set_option maxHeartbeats 4000000 in
theorem close_b (h : SS M P w d t C k D A cap L m n) (hinj : ∀ i j id, m i = some id → m j = some id → i = j) (hu : ∀ i id b u, m i = some id → C id = some (b, u) → 0 ≤ u ∧ u ≤ 1000000) :
    Calls Tryz.prog 33 #[.pointer (some ⟨D.X, 0, none⟩)] w (ClPost M P w d t C k D m) := by
  have HS := Lib.hid h
  have c11 := h.sp.c11
  have lX := h.sp.ltX
  have HINJ := Lib.hid hinj
  have HU := Lib.hid hu
  obtain ⟨w2, hrg, hit, hb2⟩ := MapIs.range h.sp.mp Tryz.underlying112
  have hMr : D.Mm < w.heap.size := h.sp.mp.lt
  have HIT := Lib.hid hit
  have HB2 := Lib.hid hb2
  obtain ⟨Br, hBr⟩ : ∃ g, w.heap.size = g := ⟨_, rfl⟩
  rw [hBr] at hrg HIT hMr
  have HBR := Lib.hid hBr
  clear hit hb2 hBr h hinj hu
  go_enter Tryz.func33, Tryz.ntmps33
  go_wp2_with fail
  clear hrg c11 lX
  go_loopw [3] (fun _ wr => ∃ (left : Value → Prop) (c' : Nat) (t' : PSt σ), LoI M P w wr d t t' (loC C m (fun i => (m i).isSome = true ∧ ¬ left (.int .i64 i))) k D A cap L m n ∧
    ItIs Tryz.prog 3 wr D.Mm Br (spF m) left c' ∧ ¬ Own d t' Br) (fun _ wr => wr.rangeLeft D.Mm Br)
  case atStart =>
    have e0 : (fun i => (m i).isSome = true ∧ ¬ True) = fun _ => False := by funext i; simp
    refine ⟨fun _ => True, n, t, ?_, HIT.out, fun e => by have := HS.out.pv.lt e; have := HBR.out; omega⟩
    rw [e0, loC_none]
    have h2 := HS.out.up HB2.out
    exact ⟨h2.sp, h2.pv, h2.sep, Nxs.refl.up HB2.out, rfl⟩
  case round =>
    obtain ⟨left, c', t4, hlo, hit, hno⟩ := hrel
    have HL := Lib.hid hlo
    have HIT4 := Lib.hid hit
    have HNO := Lib.hid hno
    have hnx := hit.next (by omega)
    have s11 := hlo.sp.c11
    have fz := hlo.sp.fz 10
    have lX4 := hlo.sp.ltX
    clear hlo hit hno HIT HB2
    rcases hnx with ⟨h0, hno, hrun⟩ | ⟨key, val, w5, hf, hlf, hpos, ⟨kl, hkl⟩, hrun, ho, hs5, hit5, hent⟩
    · have HN := Lib.hid hno
      obtain ⟨w6, hr6, hm6, ho6⟩ := MapIs.clrM HL.out.sp.mp Tryz.underlying112 0
      have HM6 := Lib.hid hm6
      have HO6 := Lib.hid ho6
      have hX : ¬ D.X = D.Mm := HL.out.sp.neM
      have f6 := (ho6.frozen (p := ⟨D.X, 10, none⟩) lX4 hX).trans fz
      have c6 := (ho6.cell (p := ⟨D.X, 10, none⟩) lX4 hX).trans HL.out.sp.c10
      have lX6 := lt_of_cell c6
      clear hno h0 hm6 ho6 hX
      go_upto_region 5 with (refine wpList_clear0 rfl rfl (.tmp 22) 112 rfl _ rfl hr6 ?_)
      go_wp2
      go_end0
      have hl := HL.out
      have hcg : ∀ i id, m i = some id → (((m i).isSome = true ∧ ¬ left (.int .i64 i)) ↔ True) := fun i id hm => by
        refine ⟨fun _ => trivial, fun _ => ⟨by rw [hm]; rfl, HN.out (.int .i64 i) (.int .i64 id) (by rw [spF_at, hm]; rfl)⟩⟩
      rw [loC_congr hcg] at hl
      have h6 : SpAt w6 D A cap L (fun _ => none) 0 := by
        have hX : ¬ D.X = D.Mm := hl.sp.neM
        have hlX := hl.sp.ltX
        have ho := HO6.out
        exact ⟨fun i hi => (ho.cell (p := ⟨D.X, i, none⟩) hlX hX).trans (hl.sp.cc i hi), (ho.cell (p := ⟨D.X, 9, none⟩) hlX hX).trans hl.sp.c9, (ho.cell (p := ⟨D.X, 10, none⟩) hlX hX).trans hl.sp.c10, (ho.cell (p := ⟨D.X, 11, none⟩) hlX hX).trans hl.sp.c11,
          fun k => (ho.frozen (p := ⟨D.X, k, none⟩) hlX hX).trans (hl.sp.fz k), hl.sp.row.off ho (fun k e e2 => by subst e; exact hl.sp.neA.2 e2), by rw [spF_none]; exact HM6.out, hl.sp.neM, hl.sp.neA⟩
      obtain ⟨h7, ho7⟩ := close_set h6
      have hsM := hl.sep D.Mm (.inr (.inl rfl))
      have hsX := hl.sep D.X (.inl rfl)
      refine ⟨t4, rfl, ?_, hl.e1, ⟨h7, (hl.pv.offL HO6.out (fun b e => by rw [e]; exact hsM)).offL ho7 (fun b e => by rw [e]; exact hsX), HS.out.ok, HS.out.q, HS.out.z, fun q hq => ?_, (fun i id hi => by cases hi), by simp⟩⟩
      · exact ((hl.nx.mono fun k e => .inl e).offS HO6.out (fun b e => .inl (.inl e))).offS ho7 (fun b e => .inl (.inr e))
      · rcases hq with e | e | e
        · rw [e]; exact hsX
        · rw [e]; exact hsM
        · have := e.1; simp at this
    · obtain ⟨q, id, rfl, hmq, rfl⟩ := spF_inv hf
      have hd : ¬ ((m q).isSome = true ∧ ¬ left (.int .i64 q)) := fun h => h.2 hlf
      have hlo5 := HL.out.off ho (fun b e => by rw [e]; exact HNO.out) (fun b e hb => by
        have := HS.out.sp.lt hb
        have := HBR.out
        have : b = Br := e
        omega) (fun b e => by rw [e]; exact Nat.le_of_eq HBR.out)
      have s9 := hlo5.sp.c9
      rw [HS.out.q] at s9
      have lX5 := hlo5.sp.ltX
      have HIT5 := Lib.hid hit5
      have hdn : ∀ i, ((m i).isSome = true ∧ ¬ (left (.int .i64 i) ∧ Value.int .i64 i ≠ .int .i64 q)) ↔ ((m i).isSome = true ∧ ¬ left (.int .i64 i)) ∨ i = q := by
        intro i
        constructor
        · rintro ⟨h1, h2⟩
          by_cases h3 : left (.int .i64 i)
          · right
            by_cases h4 : (Value.int .i64 i) = .int .i64 q
            · injection h4
            · exact absurd ⟨h3, h4⟩ h2
          · exact .inl ⟨h1, h3⟩
        · rintro (⟨h1, h2⟩ | rfl)
          · exact ⟨h1, fun h => h2 h.1⟩
          · exact ⟨by rw [hmq]; rfl, fun h => h.2 rfl⟩
      have HLT := Lib.hid (lo_let HS.out.q hlo5 HINJ.out HS.out.has hmq hd hdn (fun b u => HU.out q id b u hmq))
      clear hf hmq hlf hkl ho hit5 hlo5 hs5 hdn hd s11 fz lX4
      go_wp2_with (go_at_call 65; go_loud (refine HLT.out.mono ?_; rintro e6 w6 ⟨rfl, t6, hx6, hl6⟩; have HX6 := Lib.hid hx6; have HL6 := Lib.hid hl6; clear hx6 hl6))
      have HIT7 := Lib.hid (HIT5.out.off HX6.out.off (HL.out.sep _ (.inr (.inl rfl))) HNO.out)
      go_roundw
      case rel => exact ⟨fun x => left x ∧ x ≠ .int .i64 q, c' - 1, t6, HL6.out, HIT7.out, (HX6.out.keep HIT5.out.lt.2 HNO.out).2⟩
      case measure => rw [HIT7.out.left_eq, HIT4.out.left_eq]; omega
end
end Go.Proofs.YtlhfjaagkgengaaGreat
