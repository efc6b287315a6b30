/- slices.Compact of addresses. -/
import Derived.Test.YtgkdggidgaifhaaEaZ
import Derived.Lib.SlicesCompact
namespace Go.Proofs.Ytgkdggidgaifhaa
open Go.RowKit Go.Lib Go.Sort
set_option linter.unusedVariables false
set_option linter.unusedSimpArgs false
/-- A row of addresses from a place on, that may be written. -/
def RwP (w : World) (G o : Nat) (d : Array (Int × Int)) : Prop := G < w.heap.size ∧ ∀ i, i < d.size → w.cell? ⟨G, o + i * 2, none⟩ = some (.int .i64 d[i]!.1) ∧ w.cell? ⟨G, o + i * 2 + 1, none⟩ = some (.int .i64 d[i]!.2) ∧ w.frozen? ⟨G, o + i * 2, none⟩ = false ∧ w.frozen? ⟨G, o + i * 2 + 1, none⟩ = false
theorem RwP.off {S : Nat → Prop} {w w' : World} {G o : Nat} {d : Array (Int × Int)} (h : RwP w G o d) (ho : Off S w w') (hs : ¬ S G) : RwP w' G o d :=
  ⟨Nat.lt_of_lt_of_le h.1 ho.size, fun i hi => by
    obtain ⟨h1, h2, h3, h4⟩ := h.2 i hi
    exact ⟨(ho.cell (p := ⟨G, _, none⟩) h.1 hs).trans h1, (ho.cell (p := ⟨G, _, none⟩) h.1 hs).trans h2, (ho.frozen (p := ⟨G, _, none⟩) h.1 hs).trans h3, (ho.frozen (p := ⟨G, _, none⟩) h.1 hs).trans h4⟩⟩
theorem RwP.set {w : World} {G o : Nat} {d : Array (Int × Int)} (h : RwP w G o d) {i : Nat} (hi : i < d.size) (x : Int × Int) :
    RwP ((w.setCell ⟨G, o + i * 2, none⟩ (.int .i64 x.1)).setCell ⟨G, o + i * 2 + 1, none⟩ (.int .i64 x.2)) G o (d.setIfInBounds i x) ∧ Off (· = G) w ((w.setCell ⟨G, o + i * 2, none⟩ (.int .i64 x.1)).setCell ⟨G, o + i * 2 + 1, none⟩ (.int .i64 x.2)) := by
  have o1 : Off (· = G) w (w.setCell ⟨G, o + i * 2, none⟩ (.int .i64 x.1)) := (Off.refl (· = G) w).setCell (p := ⟨G, _, none⟩) rfl _
  have o2 : Off (· = G) w ((w.setCell ⟨G, o + i * 2, none⟩ (.int .i64 x.1)).setCell ⟨G, o + i * 2 + 1, none⟩ (.int .i64 x.2)) := o1.setCell (p := ⟨G, _, none⟩) rfl _
  refine ⟨⟨Nat.lt_of_lt_of_le h.1 o2.size, fun j hj => ?_⟩, o2⟩
  rw [Array.size_setIfInBounds] at hj
  obtain ⟨h1, h2, h3, h4⟩ := h.2 j hj
  have ne : ∀ a b : Nat, a ≠ b → (⟨G, a, none⟩ : Addr) ≠ ⟨G, b, none⟩ := fun a b h e => by injection e with _ e; exact h e
  by_cases e : j = i
  · subst e
    rw [show (d.setIfInBounds j x)[j]! = x by simp [getElem!_pos, hj]]
    refine ⟨?_, World.cell?_setCell_same _ _ _ ((World.cell?_setCell_other _ _ _ _ (ne _ _ (by omega))).trans h2), ?_, ?_⟩
    · rw [World.cell?_setCell_other _ _ _ _ (ne _ _ (by omega))]
      exact World.cell?_setCell_same _ _ _ h1
    · rw [World.frozen?_setCell, World.frozen?_setCell]; exact h3
    · rw [World.frozen?_setCell, World.frozen?_setCell]; exact h4
  · rw [show (d.setIfInBounds i x)[j]! = d[j]! by rw [getElem!_set_other d i j _ e]]
    refine ⟨?_, ?_, ?_, ?_⟩
    · rw [World.cell?_setCell_other _ _ _ _ (ne _ _ (by omega)), World.cell?_setCell_other _ _ _ _ (ne _ _ (by omega))]; exact h1
    · rw [World.cell?_setCell_other _ _ _ _ (ne _ _ (by omega)), World.cell?_setCell_other _ _ _ _ (ne _ _ (by omega))]; exact h2
    · rw [World.frozen?_setCell, World.frozen?_setCell]; exact h3
    · rw [World.frozen?_setCell, World.frozen?_setCell]; exact h4
/-- The cells behind the kept ones are cleared. -/
theorem run_clear_addr {w : World} {G o c n : Nat} (ty : TypeId) (hn : 0 < n) (hc : ∀ j, j < n * 2 → (w.cell? ⟨G, o + j, none⟩).isSome = true) (hf : ∀ j, j < n * 2 → w.frozen? ⟨G, o + j, none⟩ = false) :
    ∃ vs : List Value, vs.length = n * 2 ∧ (Builtin.clear_ #[53] ty #[.slice (some ⟨G, o, none⟩) n c]).run Try.prog w = .ok (.tuple #[]) (w.setCells G o vs) := by
  obtain ⟨i0, hi, hz0, hz1, hz2⟩ := info_parts addr_info
  have hv : ∀ w, (zeroValue 30).run Try.prog w = .ok (.agg #[.int .i64 0, .int .i64 0]) w := fun w => by simp [go_sem]
  have hzc : (Value.agg #[.int .i64 0, .int .i64 0]).cells = #[.int .i64 0, .int .i64 0] := by simp [Value.cells]
  refine ⟨(Builtin.zeroCells #[.int .i64 0, .int .i64 0] n).toList, by simp [Builtin.zeroCells], ?_⟩
  have hst := run_storeCells_cells (P := Try.prog) G o (Builtin.zeroCells #[.int .i64 0, .int .i64 0] n).toList 0 w (by simpa [Builtin.zeroCells] using hc) (by simpa [Builtin.zeroCells] using hf) (by
    intro v hv'
    simp only [Builtin.zeroCells, Array.toList_map, List.mem_map] at hv'
    obtain ⟨i, _, rfl⟩ := hv'
    have : i % 2 = 0 ∨ i % 2 = 1 := by omega
    rcases this with e | e <;> simp [e, Value.oneCell'])
  simp only [Nat.add_zero] at hst
  obtain ⟨m, rfl⟩ : ∃ m, n = m + 1 := ⟨n - 1, by omega⟩
  simp [Builtin.clear_, run_underlying Try.underlying53, hv, hzc, hst]
theorem off_setCells {G : Nat} : ∀ (vs : List Value) (o : Nat) (w : World), Off (· = G) w (w.setCells G o vs)
  | [], _, w => Off.refl _ w
  | v :: r, o, w => ((Off.refl (· = G) w).setCell (p := ⟨G, o, none⟩) rfl v).trans (off_setCells r (o + 1) _)
def CpPost (w : World) (G o c : Nat) (d : Array (Int × Int)) (e : Ending) (w' : World) : Prop :=
  e = .returned (.slice (some ⟨G, o, none⟩) (compactUpTo d d.size).length c) ∧ Off (· = G) w w' ∧ ∀ (i : Nat) (x : Int × Int), (compactUpTo d d.size)[i]? = some x → w'.cell? ⟨G, o + i * 2, none⟩ = some (.int .i64 x.1) ∧ w'.cell? ⟨G, o + i * 2 + 1, none⟩ = some (.int .i64 x.2)
theorem cp_all {w w' : World} {G o c : Nat} {d : Array (Int × Int)} (h : RwP w' G o d) (ho : Off (fun _ => False) w w') (hall : ∀ j, j < d.size → keeps d j = true) : CpPost w G o c d (.returned (.slice (some ⟨G, o, none⟩) d.size c)) w' := by
  have e : compactUpTo d d.size = d.toList := by rw [compactUpTo_all d _ hall, range_map_get]
  unfold CpPost
  rw [e]
  refine ⟨by simp, ho.mono (fun _ => False.elim), fun i x hx => ?_⟩
  have hi : i < d.size := by simpa using (List.getElem?_eq_some_iff.1 hx).1
  have hd : d[i]! = x := by
    rw [getElem!_pos d i hi]
    rw [Array.getElem?_toList, Array.getElem?_eq_getElem hi] at hx
    injection hx
  have := h.2 i hi
  rw [hd] at this
  exact ⟨this.1, this.2.1⟩
set_option maxRecDepth 100000 in
set_option maxHeartbeats 4000000 in
theorem compact_any {w : World} {G o c : Nat} {d : Array (Int × Int)} (h : RwP w G o d) (hn : d.size ≤ 33554432) (hc : d.size ≤ c) :
    Calls Try.prog 34 #[.slice (some ⟨G, o, none⟩) d.size c] w (CpPost w G o c d) := by
  have H := Lib.hid h
  have HA0 : Hid (d.size < 2 → ∀ j, j < d.size → keeps d j = true) := Lib.hid fun h2 j hj => keeps_lt_one d j (by omega)
  clear h
  go_enter Try.func34, Try.ntmps34
  by_cases h2 : (d.size : Int) < 2
  · go_wp2
    go_ret
    exact cp_all H.out (Off.refl _ _) (HA0.out (by omega))
  go_wp2_with fail
  go_loopw [3] (fun s3 wr => ∃ k : Nat, k + 1 ≤ d.size ∧ s3 = .int .i64 ((k + 1 : Nat) : Int) ∧ RwP wr G o d ∧ Off (fun _ => False) w wr ∧ ∀ j, j < k + 1 → keeps d j = true) (fun s3 _ => d.size - (intOf s3).toNat)
  case atStart => exact ⟨0, by omega, rfl, H.out, Off.refl _ _, keeps_lt_one d⟩
  case round =>
    obtain ⟨k, hk, rfl, hrw, hof, hall⟩ := hrel
    have HRW := Lib.hid hrw
    have HOF := Lib.hid hof
    have HALL := Lib.hid hall
    by_cases hlt : k + 1 < d.size
    · have hltI : ((k + 1 : Nat) : Int) < (d.size : Int) := by omega
      obtain ⟨c2, c3, _, _⟩ := hrw.2 (k + 1) hlt
      obtain ⟨c0, c1, _, _⟩ := hrw.2 k (by omega)
      obtain ⟨⟨x1, x2⟩, hx⟩ : ∃ x, d[k + 1]! = x := ⟨_, rfl⟩
      obtain ⟨⟨y1, y2⟩, hy⟩ : ∃ x, d[k]! = x := ⟨_, rfl⟩
      rw [hx] at c2 c3
      rw [hy] at c0 c1
      simp only at c0 c1 c2 c3
      have HXY := Lib.hid (And.intro hx hy)
      clear hrw hof hall hx hy
      by_cases he : x1 = y1 ∧ x2 = y2
      · obtain ⟨rfl, rfl⟩ := he
        go_upto_region 6 with (fail)
        go_region
        go_wp2_with fail
        have HDUP : Hid (keeps d (k + 1) = false) := Lib.hid (keeps_neg (by omega) (by rw [HXY.out.1, Nat.add_sub_cancel, HXY.out.2]))
        clear c0 c1 c2 c3
        go_loopw [3, 5] (fun s3 s5 wv => ∃ (kk k2 : Nat) (dk : Array (Int × Int)), s3 = .int .i64 (kk : Nat) ∧ s5 = .int .i64 ((k2 + 1 : Nat) : Int) ∧ k + 1 + (k2 + 1) ≤ d.size ∧ RwP wv G o dk ∧ Off (· = G) w wv ∧ CompInv d (k + 1 + (k2 + 1)) kk dk) (fun _ s5 _ => d.size - (intOf s5).toNat)
        case atStart => exact ⟨k + 1, 0, d, rfl, rfl, by omega, HRW.out.off (Off.refl (fun _ => False) _).drew id, (HOF.out.drew).mono (fun _ => False.elim), CompInv.start HALL.out HDUP.out⟩
        case round =>
          obtain ⟨kk, k2, dk, rfl, rfl, hle, hrv, hov, hinv⟩ := hrel
          have HRV := Lib.hid hrv
          have HOV := Lib.hid hov
          have HI := Lib.hid hinv
          have hkk := hinv.lt
          have hds := hinv.size
          by_cases hlt2 : k + 1 + (k2 + 1) < d.size
          · have hlt2I : ((k2 + 1 : Nat) : Int) < ((d.size - (k + 1) : Nat) : Int) := by omega
            obtain ⟨a0, a1, _, _⟩ := hrv.2 (k + 1 + (k2 + 1)) (by omega)
            obtain ⟨b0, b1, _, _⟩ := hrv.2 (k + 1 + k2) (by omega)
            obtain ⟨t0, t1, f0, f1⟩ := hrv.2 kk (by omega)
            rw [hinv.high _ (by omega)] at a0 a1
            rw [hinv.high _ (by omega)] at b0 b1
            obtain ⟨⟨u1, u2⟩, hu⟩ : ∃ x, d[k + 1 + (k2 + 1)]! = x := ⟨_, rfl⟩
            obtain ⟨⟨v1, v2⟩, hv⟩ : ∃ x, d[k + 1 + k2]! = x := ⟨_, rfl⟩
            obtain ⟨⟨p1, p2⟩, hp⟩ : ∃ x, dk[kk]! = x := ⟨_, rfl⟩
            rw [hu, show o + (k + 1 + (k2 + 1)) * 2 = o + (k + 1) * 2 + (k2 + 1) * 2 by omega] at a0 a1
            rw [hv, show o + (k + 1 + k2) * 2 = o + (k + 1) * 2 + k2 * 2 by omega] at b0 b1
            rw [hp] at t0 t1
            simp only at a0 a1 b0 b1 t0 t1
            have HUV := Lib.hid (And.intro hu hv)
            have hkn : kk < d.size := by omega
            have lG := lt_of_cell t0
            clear hu hv hp hrv hov hinv
            by_cases he : u1 = v1 ∧ u2 = v2
            · obtain ⟨rfl, rfl⟩ := he
              have heq : ∀ V, (Op.equalIn 10000 30 (.agg #[.int .i64 u1, .int .i64 u2]) (.agg #[.int .i64 u1, .int .i64 u2])).run Try.prog V = .ok true V := fun V => by
                rw [eq_addr]; simp
              go_upto_region 11 with (fail)
              go_region
              go_wp2
              go_roundw
              case rel => exact ⟨kk, k2 + 1, dk, rfl, by go_num, by omega, HRV.out.off (Off.refl (fun _ => False) _).drew id, HOV.out.drew, HI.out.skip (keeps_neg (by omega) (by rw [HUV.out.1, show k + 1 + (k2 + 1) - 1 = k + 1 + k2 by omega, HUV.out.2]))⟩
              case measure => simp [intOf]; omega
            · have heq : ∀ V, (Op.equalIn 10000 30 (.agg #[.int .i64 u1, .int .i64 u2]) (.agg #[.int .i64 v1, .int .i64 v2])).run Try.prog V = .ok false V := fun V => by
                rw [eq_addr, decide_eq_false (fun e => he (by simpa using e))]
              have HE := Lib.hid he
              clear he
              go_upto_region 11 with (fail)
              go_region
              go_wp2
              go_roundw
              case rel =>
                have hst := RwP.set (HRV.out.off (Off.refl (fun _ => False) _).drew id) (i := kk) (by omega) (u1, u2)
                refine ⟨kk + 1, k2 + 1, dk.setIfInBounds kk (u1, u2), by go_num, by go_num, by omega, hst.1, HOV.out.drew.trans hst.2, ?_⟩
                have := HI.out.keep hlt2 (keeps_pos (by rw [HUV.out.1, show k + 1 + (k2 + 1) - 1 = k + 1 + k2 by omega, HUV.out.2]; exact fun e => HE.out (by simpa using e)))
                rwa [HUV.out.1] at this
              case measure => simp [intOf]; omega
          · have hend : k + 1 + (k2 + 1) = d.size := by omega
            have hltN : ¬ ((k2 + 1 : Nat) : Int) < ((d.size - (k + 1) : Nat) : Int) := by omega
            have hkn : kk < d.size := by omega
            have hrc : ∀ j, j < (d.size - kk) * 2 → (wr.cell? ⟨G, o + kk * 2 + j, none⟩).isSome = true ∧ wr.frozen? ⟨G, o + kk * 2 + j, none⟩ = false := fun j hj => by
              obtain ⟨z0, z1, z2, z3⟩ := hrv.2 (kk + j / 2) (by omega)
              rcases (show j % 2 = 0 ∨ j % 2 = 1 by omega) with e | e
              · rw [show o + kk * 2 + j = o + (kk + j / 2) * 2 by omega]
                exact ⟨by rw [z0]; rfl, z2⟩
              · rw [show o + kk * 2 + j = o + (kk + j / 2) * 2 + 1 by omega]
                exact ⟨by rw [z1]; rfl, z3⟩
            obtain ⟨vs, hvs, hcl⟩ := run_clear_addr (w := wr) (G := G) (o := o + kk * 2) (n := d.size - kk) (c := c - kk) 0 (by omega) (fun j hj => (hrc j hj).1) (fun j hj => (hrc j hj).2)
            clear hrv hov hinv hrc
            go_wp2
            go_ret
            have hI := HI.out
            rw [hend] at hI
            refine ⟨by rw [hI.len]; rfl, HOV.out.trans (off_setCells _ _ _), fun i x hx => ?_⟩
            have hi : i < kk := by rw [← hI.len]; exact (List.getElem?_eq_some_iff.1 hx).1
            have hxx : dk[i]! = x := by
              have h1 := hI.low i hi
              rw [hx] at h1
              injection h1 with h1
              exact h1.symm
            obtain ⟨z0, z1, _, _⟩ := HRV.out.2 i (by omega)
            rw [hxx] at z0 z1
            rw [World.cell?_setCells_out _ _ _ _ _ (fun _ _ => .inl (by show o + i * 2 < _; omega)), World.cell?_setCells_out _ _ _ _ _ (fun _ _ => .inl (by show o + i * 2 + 1 < _; omega))]
            exact ⟨z0, z1⟩
      · have heq : ∀ V, (Op.equalIn 10000 30 (.agg #[.int .i64 x1, .int .i64 x2]) (.agg #[.int .i64 y1, .int .i64 y2])).run Try.prog V = .ok false V := fun V => by
          rw [eq_addr, decide_eq_false (fun e => he (by simpa using e))]
        have HE := Lib.hid he
        clear he
        go_upto_region 6 with (fail)
        go_region
        go_wp2
        go_roundw
        case rel => exact ⟨k + 1, by omega, by go_num, HRW.out.off (Off.refl (fun _ => False) _).drew id, HOF.out.drew, fun j hj => by
          by_cases e : j = k + 1
          · subst e
            exact keeps_pos (by rw [HXY.out.1, Nat.add_sub_cancel, HXY.out.2]; exact fun e => HE.out (by simpa using e))
          · exact HALL.out j (by omega)⟩
        case measure => simp [intOf]; omega
    · have hd : d.size = k + 1 := by omega
      rw [hd]
      have hltI : ¬ ((k + 1 : Nat) : Int) < ((k + 1 : Nat) : Int) := by omega
      clear hrw hof hall
      go_wp2
      go_ret
      have := cp_all (c := c) HRW.out HOF.out (fun j hj => HALL.out j (by omega))
      rw [hd] at this
      exact this
set_option maxRecDepth 100000 in
set_option maxHeartbeats 2000000 in
theorem compact_none (w : World) (A : Option Addr) (c : Nat) : Calls Try.prog 34 #[.slice A 0 c] w fun e w' => e = .returned (.slice A 0 c) ∧ w' = w := by
  go_enter Try.func34, Try.ntmps34
  go_wp2
  go_ret
  exact ⟨rfl, rfl⟩
end Go.Proofs.Ytgkdggidgaifhaa
