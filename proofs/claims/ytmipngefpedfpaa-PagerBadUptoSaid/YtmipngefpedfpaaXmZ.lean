/- step of the world of almanaclaw14: Drop. -/
import Derived.Test.YtmipngefpedfpaaXlZ
import Derived.Test.YtmipngefpedfpaaSinkZ
namespace Go.Proofs.Ytmipngefpedfpaa
open Go.RowKit Go.Maps
set_option linter.unusedVariables false
set_option linter.unusedSimpArgs false

section
variable {w0 w w' w1 w2 : World} {Wb S : Nat} {d : PD} {t t' t1 t2 : PSt ShS} {R : Prop} {k k1 : Nat} {vi vb : Value} {xs : List Pe} {is : List Int} {C : Cn} {x y : Pe} {q : Nat}
theorem src_take {f : Pe → Value} {c : Nat → Option Value} (h : ∀ (i : Nat) z, xs[i]? = some z → c i = some (f z)) {j : Nat} {u : Value} (hu : ((xs.map f).take q)[j]? = some u) : c (0 + j) = some u := by
  rw [List.getElem?_take] at hu
  split at hu
  · rw [List.getElem?_map] at hu
    obtain ⟨z, hz, rfl⟩ := Option.map_eq_some_iff.1 hu
    rw [Nat.zero_add]
    exact h j z hz
  · cases hu
theorem src_drop {f : Pe → Value} {c : Nat → Option Value} (h : ∀ (i : Nat) z, xs[i]? = some z → c i = some (f z)) {j : Nat} {u : Value} (hu : ((xs.map f).drop (q + 1))[j]? = some u) : c (q + 1 + j) = some u := by
  rw [List.getElem?_drop, List.getElem?_map] at hu
  obtain ⟨z, hz, rfl⟩ := Option.map_eq_some_iff.1 hu
  exact h _ z hz
/-- Behind the first list's change. -/
theorem outI {k : Nat} {C : Cn} {vi' : Value} (hq : q < xs.length) (hv : Vw S w0 w d t C R k) (hl : WL w0 w Wb S d t vi vb (xs.map Pe.id) xs) (hb1 : Below w.heap.size w w1) (hr1 : w1.ownsRow w.heap.size 3 1 vi' (q + (xs.length - (q + 1))) ((xs.map fun z => iv z.id).take q ++ (xs.map fun z => iv z.id).drop (q + 1))) :
    WL w0 (w1.setCell ⟨Wb, 4, none⟩ vi') Wb S d t vi' vb (outX (xs.map Pe.id) q) xs ∧ Vw S w0 (w1.setCell ⟨Wb, 4, none⟩ vi') d t C R k := by
  have hlen := outX_len (l := xs.map Pe.id) (q := q) (by rw [List.length_map]; exact hq)
  rw [List.length_map] at hlen
  obtain ⟨hl2, ho2⟩ := hl.setI (w1 := w1) (vi' := vi') (is' := outX (xs.map Pe.id) q) (fun b hb => hv.lt hb) hv.bel.size (Off.of_below hb1) (by
    unfold OwI
    rw [hlen, outX_map, List.map_map, show xs.length - 1 = q + (xs.length - (q + 1)) by omega]
    exact World.ownsRow.mono hr1 hv.bel.size) (fun g e => .inr (World.ownsRow.lt hr1 g e).1) (by rw [hlen]; have := hl.few.1; omega)
  exact ⟨hl2, hv.offL ho2 (fun b hb => by
    rcases hb with e | e
    · exact (hl.out b (.inl e)).1
    · exact (hl.out b (.inr (.inl e))).1) (fun b hb => by
    rcases hb with e | e
    · exact (hl.out b (.inl e)).2
    · exact (hl.out b (.inr (.inl e))).2)⟩
theorem outB {k : Nat} {vb' : Value} (hup : xs.Pairwise fun x y => x.id < y.id) (hq : xs[q]? = some x) (hv : Vw S w0 w d t (updC (CnX xs) x.id none) R k) (hl : WL w0 w Wb S d t vi vb (outX (xs.map Pe.id) q) xs) (hcm : t.cm = xs.length - 1)
    (hb2 : Below w.heap.size w w1) (hr3 : w1.ownsRow w.heap.size 22 1 vb' (q + (xs.length - (q + 1))) ((xs.map Pe.v).take q ++ (xs.map Pe.v).drop (q + 1))) :
    WA w0 (w1.setCell ⟨Wb, 5, none⟩ vb') Wb S d t R k vi vb' (outX xs q) := by
  have hql : q < xs.length := (List.getElem?_eq_some_iff.1 hq).1
  have hlen := outX_len hql
  obtain ⟨hl3, ho3⟩ := hl.setB (w1 := w1) (vb' := vb') (xs' := outX xs q) (fun b hb => hv.lt hb) hv.bel.size (Off.of_below hb2) (by
    rw [hlen, outX_map, show xs.length - 1 = q + (xs.length - (q + 1)) by omega]
    exact World.ownsRow.mono hr3 hv.bel.size) (fun g e => .inr (World.ownsRow.lt hr3 g e).1) (by rw [hlen]; have := hl.few.1; omega) (fun z hz => by
    obtain ⟨i, _, hi⟩ := outX_mem hz
    exact .inl (List.mem_of_getElem? hi)) (outX_pw hl.nxx)
  refine ⟨?_, by rw [outX_map]; exact hl3, outX_pw hup, by rw [hcm, hlen]⟩
  rw [CnX_out hup hq]
  exact hv.offL ho3 (fun b hb => by
    rcases hb with e | e
    · exact (hl.out b (.inl e)).1
    · exact (hl.out b (.inr (.inr (.inl e)))).1) (fun b hb => by
    rcases hb with e | e
    · exact (hl.out b (.inl e)).2
    · exact (hl.out b (.inr (.inr (.inl e)))).2)
theorem b2_of {V w2 : World} {t : TypeId} (hg : (V.alloc (.cells #[] t)).drew.grownBy w2 (Value.ownBlock (.slice (some ⟨V.heap.size, 0, none⟩) 0 0))) : Below V.heap.size V w2 :=
  Below.grown (((Below.refl V.heap.size V).alloc (Nat.le_refl _) _).drew) hg (by simp [World.drew]) (fun k hk => by simp [Value.ownBlock] at hk; omega)
theorem ones_i {l : List Value} (h : ∀ u ∈ l, u ∈ xs.map fun z => iv z.id) : ∀ u ∈ l, u.oneCell' = true := fun u hu => by
  obtain ⟨z, _, rfl⟩ := List.mem_map.1 (h u hu)
  rfl
theorem ones_v {l : List Value} (h : ∀ u ∈ l, u ∈ xs.map Pe.v) : ∀ u ∈ l, u.oneCell' = true := fun u hu => by
  obtain ⟨z, _, rfl⟩ := List.mem_map.1 (h u hu)
  rfl
theorem info_bs : ∃ i0, Try.prog.info? 22 = some i0 ∧ i0.zero = some (.slice none 0 0) ∧ i0.size = 1 ∧ i0.bytes = 24 := info_parts by_info
theorem info_in : ∃ i0, Try.prog.info? 3 = some i0 ∧ i0.zero = some (.int .i64 0) ∧ i0.size = 1 ∧ i0.bytes = 8 := info_parts int_info
set_option maxRecDepth 100000 in
set_option maxHeartbeats 8000000 in
theorem st_drop (h : WA w0 w Wb S d t True (k + 2) vi vb xs) (hx : xs ≠ []) {page off n : Int} {A : Option Addr} {nb cb : Nat} {b : Bytes} :
    Calls Try.prog 18 #[.pointer (some ⟨Wb, 0, none⟩), .agg (Ac.cells ⟨4, page, off, n, A, nb, cb, b⟩)] w (StPost w0 Wb S d True k xs.length) := by
  have hb0 : Below w.heap.size w (w.alloc (.cells (Ac.cells ⟨4, page, off, n, A, nb, cb, b⟩) 54)) := (Below.refl _ _).alloc (Nat.le_refl _) _
  have HWC := Lib.hid (which_any (h.wl.up hb0) ⟨4, page, off, n, A, nb, cb, b⟩)
  have HAB := Lib.hid (AcB.new w ⟨4, page, off, n, A, nb, cb, b⟩ 54)
  have HW0 := Lib.hid (h.up' hb0)
  have HNE := Lib.hid (show 0 < xs.length from List.length_pos_iff.2 hx)
  obtain ⟨hz1, hz2⟩ := h.wl.z16
  have hfew := h.wl.few.1
  clear h hx hb0
  unfold Ac.cells at *
  simp only at HWC HAB HW0 ⊢
  go_enter Try.func18, Try.ntmps18
  go_wp2_with fail
  refine HWC.out.mono ?_
  rintro e w1 ⟨hb, ⟨hm, _⟩ | ⟨q, hq, rfl⟩⟩
  · exact absurd hm (by have := HNE.out; omega)
  have HW1 := Lib.hid (HW0.out.up' hb)
  have hab := HAB.out.up hb
  have c0 := hab.c0
  simp only at c0
  have hqn : ¬ (q : Int) < 0 := by omega
  obtain ⟨x, hqx⟩ : ∃ x, xs[q]? = some x := ⟨_, List.getElem?_eq_getElem hq⟩
  have HQX := Lib.hid hqx
  have HXS := Lib.hid (List.mem_of_getElem? hqx)
  clear hb hab HWC HAB HW0 hqx
  obtain ⟨Ai, ci, hvi, hcl, hI⟩ := HW1.out.wl.formI
  obtain ⟨gi, rfl, _, hlg, hci⟩ := hI (by omega)
  have hcq := hci q x HQX.out
  have q0 := HW1.out.wl.c0
  have q4 := HW1.out.wl.c4
  rw [hvi] at q4
  have lW := HW1.out.wl.ltW
  have hqI : (q : Int) < (xs.length : Int) := by omega
  have HDR := Lib.hid (vw_drop HW1.out.vw (CnX_at HW1.out.up HXS.out) (HW1.out.ids HXS.out).2.2.1)
  have HVI := Lib.hid hvi
  clear hI hci hvi
  go_wp2_with fail
  refine HDR.out.mono ?_
  rintro e w3 ⟨rfl, t3, hv3, hn3, hnx3, hcm3⟩
  have HL3 := Lib.hid (HW1.out.wl.nx hn3)
  have HV3 := Lib.hid hv3
  have HCM := Lib.hid (show t3.cm = xs.length - 1 by rw [hcm3, HW1.out.cm])
  have HID := Lib.hid (HW1.out.ids HXS.out)
  have HUP := Lib.hid HW1.out.up
  have HIB := Lib.hid (HW1.out.vw.idb (CnX_at HW1.out.up HXS.out))
  clear hv3 hn3 hnx3 hcm3 HDR HW1 q0 q4 lW hlg hcq c0
  go_upto_region 18 with (fail)
  refine wp_forget (fun V => WL w0 V Wb S d t3 vi vb (xs.map Pe.id) xs ∧ Vw S w0 V d t3 (updC (CnX xs) x.id none) True (k + 2)) ⟨HL3.out, HV3.out⟩ ?_
  rintro V ⟨hlV, hvV⟩
  clear HL3 HV3
  have q4 := hlV.c4
  have f4 := hlV.fz 4
  have lW := hlV.ltW
  rw [HVI.out] at q4
  have HLV := Lib.hid hlV
  have HVV := Lib.hid hvV
  obtain ⟨Ai2, ci2, hvi2, hcl2, hI2⟩ := hlV.formI
  rw [HVI.out] at hvi2
  injection hvi2 with e1 e2 e3
  subst e1
  subst e3
  obtain ⟨gi', e4, hown, lgi, hcI⟩ := hI2 (by omega)
  injection e4 with e4
  injection e4 with e4
  subst e4
  have hne4 : gi ≠ Wb := hlV.niW gi hown
  have HS1 := Lib.hid (fun (j : Nat) (u : Value) => src_take (q := q) (f := fun z => iv z.id) (c := fun i => V.cell? ⟨gi, i, none⟩) hcI (j := j) (u := u))
  have HS2 := Lib.hid (fun (j : Nat) (u : Value) => src_drop (q := q) (f := fun z => iv z.id) (c := fun i => V.cell? ⟨gi, i, none⟩) hcI (j := j) (u := u))
  clear hlV hvV hI2 hcI hown
  have hqci : q ≤ ci := by omega
  have hq1 : (q : Int) + 1 ≤ (xs.length : Int) := by omega
  have hq2 : q + 1 ≤ xs.length := by omega
  have hw1 : IntKind.i64.wrap ((q : Int) + 1) = (q : Int) + 1 := IntWalk.i64_in _ (by omega)
  have hq3 : 0 ≤ (q : Int) + 1 := by omega
  obtain ⟨i0, hi0, hi1, hi2, hi3⟩ := info_in
  go_cut [9] from 187 to 205 (fun s9 W => s9 = .int .i64 x.id ∧ ∃ A3 n3 c3, WL w0 W Wb S d t3 (.slice A3 n3 c3) vb (outX (xs.map Pe.id) q) xs ∧ Vw S w0 W d t3 (updC (CnX xs) x.id none) True (k + 2))
  case first =>
    by_cases hce : ci = q + 1
    · subst hce
      have hqq : (q : Int) ≤ (q : Int) + 1 := by omega
      refine wp_region_sink (S := fun w' => w'.cell? ⟨Wb, 4, none⟩ = some (.slice (some ⟨gi, 0, none⟩) xs.length (q + 1))) 19 (by kernel_rfl) (by kernel_rfl) (by kernel_rfl) (q4) (fun hHeld => ?_)
      simp only [List.take_succ_cons, List.take_zero, Array.replicate]
      refine wpAnyH_take (i := 0) (v := ?_) rfl (by kernel_rfl) (by kernel_rfl) (by kernel_rfl) (fun _ _ _ h => h) (Or.inl ⟨by rfl, ?_⟩) (by assumption) ?_
      rotate_left
      · intro w hSw
        try dsimp only at hSw
        first | (go_simp; done) | (go_simp; with_reducible rfl)
      try simp only [Act.put, List.setIfInBounds_toArray, List.set_cons_zero, List.set_cons_succ]
      refine wpAnyH_take (i := 2) (v := ?_) rfl (by kernel_rfl) (by kernel_rfl) (by kernel_rfl) (fun _ _ _ h => h) (Or.inl ⟨by rfl, ?_⟩) (by assumption) ?_
      rotate_left
      · intro w hSw
        try dsimp only at hSw
        first | (go_simp; done) | (go_simp; with_reducible rfl)
      try simp only [Act.put, List.setIfInBounds_toArray, List.set_cons_zero, List.set_cons_succ]
      refine wpAnyH_take (i := 3) (v := ?_) rfl (by kernel_rfl) (by kernel_rfl) (by kernel_rfl) (fun _ _ _ h => h) (Or.inl ⟨by rfl, ?_⟩) (by assumption) ?_
      rotate_left
      · intro w hSw
        try dsimp only at hSw
        first | (go_simp; done) | (go_simp; with_reducible rfl)
      try simp only [Act.put, List.setIfInBounds_toArray, List.set_cons_zero, List.set_cons_succ]
      refine wpAnyH_take (i := 4) (v := ?_) rfl (by kernel_rfl) (by kernel_rfl) (by kernel_rfl) (fun _ _ _ h => h) (Or.inl ⟨by rfl, ?_⟩) (by assumption) ?_
      rotate_left
      · intro w hSw
        try dsimp only at hSw
        first | (go_simp; done) | (go_simp; with_reducible rfl)
      try simp only [Act.put, List.setIfInBounds_toArray, List.set_cons_zero, List.set_cons_succ]
      refine wpAnyH_take (i := 5) (v := ?_) rfl (by kernel_rfl) (by kernel_rfl) (by kernel_rfl) (fun _ _ _ h => h) (Or.inl ⟨by rfl, ?_⟩) (by assumption) ?_
      rotate_left
      · intro w hSw
        try dsimp only at hSw
        first | (go_simp; done) | (go_simp; with_reducible rfl)
      try simp only [Act.put, List.setIfInBounds_toArray, List.set_cons_zero, List.set_cons_succ]
      refine wpAnyH_take (i := 6) (v := ?_) rfl (by kernel_rfl) (by kernel_rfl) (by kernel_rfl) (fun _ _ _ h => h) (Or.inl ⟨by rfl, ?_⟩) (by assumption) ?_
      rotate_left
      · intro w hSw
        try dsimp only at hSw
        first | (go_simp; done) | (go_simp; with_reducible rfl)
      try simp only [Act.put, List.setIfInBounds_toArray, List.set_cons_zero, List.set_cons_succ]
      refine wpAnyH_take (i := 7) (v := ?_) rfl (by kernel_rfl) (by kernel_rfl) (by kernel_rfl) (fun _ _ _ h => h) (Or.inl ⟨by rfl, ?_⟩) (by assumption) ?_
      rotate_left
      · intro w hSw
        try dsimp only at hSw
        first | (go_simp; done) | (go_simp; with_reducible rfl)
      try simp only [Act.put, List.setIfInBounds_toArray, List.set_cons_zero, List.set_cons_succ]
      refine wpAnyH_take (i := 9) (v := ?_) rfl (by kernel_rfl) (by kernel_rfl) (by kernel_rfl) (fun _ _ _ h => h) (Or.inl ⟨by rfl, ?_⟩) (by assumption) ?_
      rotate_left
      · intro w hSw
        try dsimp only at hSw
        first | (go_simp; done) | (go_simp; with_reducible rfl)
      try simp only [Act.put, List.setIfInBounds_toArray, List.set_cons_zero, List.set_cons_succ]
      refine wpAnyH_take (i := 10) (v := ?_) rfl (by kernel_rfl) (by kernel_rfl) (by kernel_rfl) (fun _ _ _ h => h) (Or.inl ⟨by rfl, ?_⟩) (by assumption) ?_
      rotate_left
      · intro w hSw
        try dsimp only at hSw
        first | (go_simp; done) | (go_simp; with_reducible rfl)
      try simp only [Act.put, List.setIfInBounds_toArray, List.set_cons_zero, List.set_cons_succ]
      refine wpAnyH_take (i := 11) (v := ?_) rfl (by kernel_rfl) (by kernel_rfl) (by kernel_rfl) (fun _ _ _ h => h) (Or.inl ⟨by rfl, ?_⟩) (by assumption) ?_
      rotate_left
      · intro w hSw
        try dsimp only at hSw
        first | (go_simp; done) | (go_simp; with_reducible rfl)
      try simp only [Act.put, List.setIfInBounds_toArray, List.set_cons_zero, List.set_cons_succ]
      refine wpAnyH_take (i := 12) (v := ?_) rfl (by kernel_rfl) (by kernel_rfl) (by kernel_rfl) (fun _ _ _ h => h) (Or.inl ⟨by rfl, ?_⟩) (by assumption) ?_
      rotate_left
      · intro w hSw
        try dsimp only at hSw
        first | (go_simp; done) | (go_simp; with_reducible rfl)
      try simp only [Act.put, List.setIfInBounds_toArray, List.set_cons_zero, List.set_cons_succ]
      refine wpAnyH_take (i := 13) (v := ?_) rfl (by kernel_rfl) (by kernel_rfl) (by kernel_rfl) (fun _ _ _ h => h) (Or.inl ⟨by rfl, ?_⟩) (by assumption) ?_
      rotate_left
      · intro w hSw
        try dsimp only at hSw
        first | (go_simp; done) | (go_simp; with_reducible rfl)
      try simp only [Act.put, List.setIfInBounds_toArray, List.set_cons_zero, List.set_cons_succ]
      refine wpAnyH_take (i := 14) (v := ?_) rfl (by kernel_rfl) (by kernel_rfl) (by kernel_rfl) (fun _ _ _ h => h) (Or.inl ⟨by rfl, ?_⟩) (by assumption) ?_
      rotate_left
      · intro w hSw
        try dsimp only at hSw
        first | (go_simp; done) | (go_simp; with_reducible rfl)
      try simp only [Act.put, List.setIfInBounds_toArray, List.set_cons_zero, List.set_cons_succ]
      refine wpAnyH_take (i := 15) (v := ?_) rfl (by kernel_rfl) (by kernel_rfl) (by kernel_rfl) (fun _ _ _ h => h) (Or.inl ⟨by rfl, ?_⟩) (by assumption) ?_
      rotate_left
      · intro w hSw
        try dsimp only at hSw
        first | (go_simp; done) | (go_simp; with_reducible rfl)
      try simp only [Act.put, List.setIfInBounds_toArray, List.set_cons_zero, List.set_cons_succ]
      refine wpAnyH_ready (rs := [1]) (by kernel_rfl) (by simp) ?_
      refine AllReadyH.cons (o := _) rfl (fun K hK => ?_) AllReadyH.nil
      go_simp
      refine hK.out _ _ ((((Below.refl V.heap.size V).alloc (Nat.le_refl _) (.cells #[] 3)).cell (p := ⟨Wb, 4, none⟩) lW).trans q4) (fun hHeld => ?_)
      clear hK K
      try simp only [Act.put, List.setIfInBounds_toArray, List.set_cons_zero, List.set_cons_succ]
      refine wpAnyH_ready (rs := [8]) (by kernel_rfl) (by simp) ?_
      refine AllReadyH.cons (o := _) rfl (fun K hK => ?_) AllReadyH.nil
      (refine step_app1 Try.underlying38 hi0 hi1 hi2 hi3 rfl (by omega) (by rfl) _ _ (by rfl) V.heap.size (.slice (some ⟨V.heap.size, 0, none⟩) 0 0) 0 [] (some ⟨gi, 0, none⟩) q (q + 1) ((xs.map fun z => iv z.id).take q) (by rfl) (World.ownsRow_made V #[] 0 (Nat.le_refl _) (by unfold maxLen; omega) (by simp)) (by rfl) (by simp; omega) (fun _ => ⟨gi, 0, rfl, fun j u hj => ((((Below.refl V.heap.size V).alloc (Nat.le_refl _) (.cells #[] 3)).cell (p := ⟨gi, 0 + j, none⟩) lgi).trans (HS1.out j u hj))⟩) (ones_i (xs := xs) fun u hu => List.mem_of_mem_take hu) (by simp) (by omega) ?_; intro v2 w2 hrow hg hat; obtain ⟨A2, n2, c2, rfl⟩ := row_form hrow; simp only [List.nil_append, Nat.zero_add] at hrow; have hb2 : Below V.heap.size V w2 := b2_of hg; have HR2 := Lib.hid hrow; have HB2 := Lib.hid hb2; have q42 := (hb2.cell (p := ⟨Wb, 4, none⟩) lW).trans q4; have f42 := (hb2.frozen (p := ⟨Wb, 4, none⟩) lW).trans f4; have l2 := hb2.size; clear hrow hg hat hb2)
      refine hK.out _ _ (q42) (fun hHeld => ?_)
      clear hK K
      try simp only [Act.put, List.setIfInBounds_toArray, List.set_cons_zero, List.set_cons_succ]
      refine wpAnyH_ready (rs := [16]) (by kernel_rfl) (by simp) ?_
      refine AllReadyH.cons (o := _) rfl (fun K hK => ?_) AllReadyH.nil
      (refine step_app1 Try.underlying38 hi0 hi1 hi2 hi3 rfl (by omega) (by rfl) _ _ (by rfl) V.heap.size (.slice A2 n2 c2) q ((xs.map fun z => iv z.id).take q) _ 0 _ [] (by rfl) HR2.out (by rfl) (by simp) (by intro hp; exact absurd hp (by omega)) (fun u hu => by cases hu) l2 (by omega) ?_; intro v3 w3 hrow hg hat; obtain ⟨A3, n3, c3, rfl⟩ := row_form hrow; have hb3 : Below V.heap.size V w3 := Below.grown HB2.out hg l2 (fun k hk => (World.ownsRow.lt HR2.out k hk).1); have HR3 := Lib.hid (show w3.ownsRow V.heap.size 3 1 (.slice A3 n3 c3) (q + (xs.length - (q + 1))) ((xs.map fun z => iv z.id).take q ++ (xs.map fun z => iv z.id).drop (q + 1)) from (by rw [show xs.length - (q + 1) = 0 by omega, show (xs.map fun z => iv z.id).drop (q + 1) = [] from List.drop_eq_nil_of_le (by simp; omega)]; exact hrow)); have HB3 := Lib.hid hb3; have q43 := (hb3.cell (p := ⟨Wb, 4, none⟩) lW).trans q4; have f43 := (hb3.frozen (p := ⟨Wb, 4, none⟩) lW).trans f4; clear hrow hg hat hb3)
      refine hK.out _ _ (q43) (fun hHeld => ?_)
      clear hK K
      try simp only [Act.put, List.setIfInBounds_toArray, List.set_cons_zero, List.set_cons_succ]
      refine wpAnyH_take (i := 17) (v := ?_) rfl (by kernel_rfl) (by kernel_rfl) (by kernel_rfl) (fun _ _ _ h => h) (Or.inl ⟨by rfl, ?_⟩) (by assumption) ?_
      rotate_left
      · intro w hSw
        try dsimp only at hSw
        first | (go_simp; done) | (go_simp; with_reducible rfl)
      try simp only [Act.put, List.setIfInBounds_toArray, List.set_cons_zero, List.set_cons_succ]
      refine wpAnyH_take (i := 18) (v := ?_) rfl (by kernel_rfl) (by kernel_rfl) (by kernel_rfl) (fun _ _ _ h => h) (Or.inl ⟨by rfl, ?_⟩) (by assumption) ?_
      rotate_left
      · intro w hSw
        try dsimp only at hSw
        first | (go_simp; done) | (go_simp; with_reducible rfl)
      try simp only [Act.put, List.setIfInBounds_toArray, List.set_cons_zero, List.set_cons_succ]
      refine wpAnyH_done (by kernel_rfl) ?_ _
      refine sink_done (o := _) rfl (fun K hK => ?_)
      go_simp
      refine hK _ _ ?_
      go_wp2_with fail
      go_meet
      exact ⟨rfl, A3, n3, c3, outI hq HVV.out HLV.out HB3.out HR3.out⟩
    ·
      refine wp_region_sink (S := fun w' => w'.cell? ⟨Wb, 4, none⟩ = some (.slice (some ⟨gi, 0, none⟩) xs.length ci)) 19 (by kernel_rfl) (by kernel_rfl) (by kernel_rfl) (q4) (fun hHeld => ?_)
      simp only [List.take_succ_cons, List.take_zero, Array.replicate]
      refine wpAnyH_take (i := 0) (v := ?_) rfl (by kernel_rfl) (by kernel_rfl) (by kernel_rfl) (fun _ _ _ h => h) (Or.inl ⟨by rfl, ?_⟩) (by assumption) ?_
      rotate_left
      · intro w hSw
        try dsimp only at hSw
        first | (go_simp; done) | (go_simp; with_reducible rfl)
      try simp only [Act.put, List.setIfInBounds_toArray, List.set_cons_zero, List.set_cons_succ]
      refine wpAnyH_take (i := 2) (v := ?_) rfl (by kernel_rfl) (by kernel_rfl) (by kernel_rfl) (fun _ _ _ h => h) (Or.inl ⟨by rfl, ?_⟩) (by assumption) ?_
      rotate_left
      · intro w hSw
        try dsimp only at hSw
        first | (go_simp; done) | (go_simp; with_reducible rfl)
      try simp only [Act.put, List.setIfInBounds_toArray, List.set_cons_zero, List.set_cons_succ]
      refine wpAnyH_take (i := 3) (v := ?_) rfl (by kernel_rfl) (by kernel_rfl) (by kernel_rfl) (fun _ _ _ h => h) (Or.inl ⟨by rfl, ?_⟩) (by assumption) ?_
      rotate_left
      · intro w hSw
        try dsimp only at hSw
        first | (go_simp; done) | (go_simp; with_reducible rfl)
      try simp only [Act.put, List.setIfInBounds_toArray, List.set_cons_zero, List.set_cons_succ]
      refine wpAnyH_take (i := 4) (v := ?_) rfl (by kernel_rfl) (by kernel_rfl) (by kernel_rfl) (fun _ _ _ h => h) (Or.inl ⟨by rfl, ?_⟩) (by assumption) ?_
      rotate_left
      · intro w hSw
        try dsimp only at hSw
        first | (go_simp; done) | (go_simp; with_reducible rfl)
      try simp only [Act.put, List.setIfInBounds_toArray, List.set_cons_zero, List.set_cons_succ]
      refine wpAnyH_take (i := 5) (v := ?_) rfl (by kernel_rfl) (by kernel_rfl) (by kernel_rfl) (fun _ _ _ h => h) (Or.inl ⟨by rfl, ?_⟩) (by assumption) ?_
      rotate_left
      · intro w hSw
        try dsimp only at hSw
        first | (go_simp; done) | (go_simp; with_reducible rfl)
      try simp only [Act.put, List.setIfInBounds_toArray, List.set_cons_zero, List.set_cons_succ]
      refine wpAnyH_take (i := 6) (v := ?_) rfl (by kernel_rfl) (by kernel_rfl) (by kernel_rfl) (fun _ _ _ h => h) (Or.inl ⟨by rfl, ?_⟩) (by assumption) ?_
      rotate_left
      · intro w hSw
        try dsimp only at hSw
        first | (go_simp; done) | (go_simp; with_reducible rfl)
      try simp only [Act.put, List.setIfInBounds_toArray, List.set_cons_zero, List.set_cons_succ]
      refine wpAnyH_take (i := 7) (v := ?_) rfl (by kernel_rfl) (by kernel_rfl) (by kernel_rfl) (fun _ _ _ h => h) (Or.inl ⟨by rfl, ?_⟩) (by assumption) ?_
      rotate_left
      · intro w hSw
        try dsimp only at hSw
        first | (go_simp; done) | (go_simp; with_reducible rfl)
      try simp only [Act.put, List.setIfInBounds_toArray, List.set_cons_zero, List.set_cons_succ]
      refine wpAnyH_take (i := 9) (v := ?_) rfl (by kernel_rfl) (by kernel_rfl) (by kernel_rfl) (fun _ _ _ h => h) (Or.inl ⟨by rfl, ?_⟩) (by assumption) ?_
      rotate_left
      · intro w hSw
        try dsimp only at hSw
        first | (go_simp; done) | (go_simp; with_reducible rfl)
      try simp only [Act.put, List.setIfInBounds_toArray, List.set_cons_zero, List.set_cons_succ]
      refine wpAnyH_take (i := 10) (v := ?_) rfl (by kernel_rfl) (by kernel_rfl) (by kernel_rfl) (fun _ _ _ h => h) (Or.inl ⟨by rfl, ?_⟩) (by assumption) ?_
      rotate_left
      · intro w hSw
        try dsimp only at hSw
        first | (go_simp; done) | (go_simp; with_reducible rfl)
      try simp only [Act.put, List.setIfInBounds_toArray, List.set_cons_zero, List.set_cons_succ]
      refine wpAnyH_take (i := 11) (v := ?_) rfl (by kernel_rfl) (by kernel_rfl) (by kernel_rfl) (fun _ _ _ h => h) (Or.inl ⟨by rfl, ?_⟩) (by assumption) ?_
      rotate_left
      · intro w hSw
        try dsimp only at hSw
        first | (go_simp; done) | (go_simp; with_reducible rfl)
      try simp only [Act.put, List.setIfInBounds_toArray, List.set_cons_zero, List.set_cons_succ]
      refine wpAnyH_take (i := 12) (v := ?_) rfl (by kernel_rfl) (by kernel_rfl) (by kernel_rfl) (fun _ _ _ h => h) (Or.inl ⟨by rfl, ?_⟩) (by assumption) ?_
      rotate_left
      · intro w hSw
        try dsimp only at hSw
        first | (go_simp; done) | (go_simp; with_reducible rfl)
      try simp only [Act.put, List.setIfInBounds_toArray, List.set_cons_zero, List.set_cons_succ]
      refine wpAnyH_take (i := 13) (v := ?_) rfl (by kernel_rfl) (by kernel_rfl) (by kernel_rfl) (fun _ _ _ h => h) (Or.inl ⟨by rfl, ?_⟩) (by assumption) ?_
      rotate_left
      · intro w hSw
        try dsimp only at hSw
        first | (go_simp; done) | (go_simp; with_reducible rfl)
      try simp only [Act.put, List.setIfInBounds_toArray, List.set_cons_zero, List.set_cons_succ]
      refine wpAnyH_take (i := 14) (v := ?_) rfl (by kernel_rfl) (by kernel_rfl) (by kernel_rfl) (fun _ _ _ h => h) (Or.inl ⟨by rfl, ?_⟩) (by assumption) ?_
      rotate_left
      · intro w hSw
        try dsimp only at hSw
        first | (go_simp; done) | (go_simp; with_reducible rfl)
      try simp only [Act.put, List.setIfInBounds_toArray, List.set_cons_zero, List.set_cons_succ]
      refine wpAnyH_take (i := 15) (v := ?_) rfl (by kernel_rfl) (by kernel_rfl) (by kernel_rfl) (fun _ _ _ h => h) (Or.inl ⟨by rfl, ?_⟩) (by assumption) ?_
      rotate_left
      · intro w hSw
        try dsimp only at hSw
        first | (go_simp; done) | (go_simp; with_reducible rfl)
      try simp only [Act.put, List.setIfInBounds_toArray, List.set_cons_zero, List.set_cons_succ]
      refine wpAnyH_ready (rs := [1]) (by kernel_rfl) (by simp) ?_
      refine AllReadyH.cons (o := _) rfl (fun K hK => ?_) AllReadyH.nil
      go_simp
      refine hK.out _ _ ((((Below.refl V.heap.size V).alloc (Nat.le_refl _) (.cells #[] 3)).cell (p := ⟨Wb, 4, none⟩) lW).trans q4) (fun hHeld => ?_)
      clear hK K
      try simp only [Act.put, List.setIfInBounds_toArray, List.set_cons_zero, List.set_cons_succ]
      refine wpAnyH_ready (rs := [8]) (by kernel_rfl) (by simp) ?_
      refine AllReadyH.cons (o := _) rfl (fun K hK => ?_) AllReadyH.nil
      (refine step_app1 Try.underlying38 hi0 hi1 hi2 hi3 rfl (by omega) (by rfl) _ _ (by rfl) V.heap.size (.slice (some ⟨V.heap.size, 0, none⟩) 0 0) 0 [] (some ⟨gi, 0, none⟩) q ci ((xs.map fun z => iv z.id).take q) (by rfl) (World.ownsRow_made V #[] 0 (Nat.le_refl _) (by unfold maxLen; omega) (by simp)) (by rfl) (by simp; omega) (fun _ => ⟨gi, 0, rfl, fun j u hj => ((((Below.refl V.heap.size V).alloc (Nat.le_refl _) (.cells #[] 3)).cell (p := ⟨gi, 0 + j, none⟩) lgi).trans (HS1.out j u hj))⟩) (ones_i (xs := xs) fun u hu => List.mem_of_mem_take hu) (by simp) (by omega) ?_; intro v2 w2 hrow hg hat; obtain ⟨A2, n2, c2, rfl⟩ := row_form hrow; simp only [List.nil_append, Nat.zero_add] at hrow; have hb2 : Below V.heap.size V w2 := b2_of hg; have HR2 := Lib.hid hrow; have HB2 := Lib.hid hb2; have q42 := (hb2.cell (p := ⟨Wb, 4, none⟩) lW).trans q4; have f42 := (hb2.frozen (p := ⟨Wb, 4, none⟩) lW).trans f4; have l2 := hb2.size; clear hrow hg hat hb2)
      refine hK.out _ _ (q42) (fun hHeld => ?_)
      clear hK K
      try simp only [Act.put, List.setIfInBounds_toArray, List.set_cons_zero, List.set_cons_succ]
      refine wpAnyH_ready (rs := [16]) (by kernel_rfl) (by simp) ?_
      refine AllReadyH.cons (o := _) rfl (fun K hK => ?_) AllReadyH.nil
      (refine step_app1 Try.underlying38 hi0 hi1 hi2 hi3 rfl (by omega) (by rfl) _ _ (by rfl) V.heap.size (.slice A2 n2 c2) q ((xs.map fun z => iv z.id).take q) _ (xs.length - (q + 1)) _ ((xs.map fun z => iv z.id).drop (q + 1)) (by rfl) HR2.out (by rfl) (by simp) (by intro hp; first | (exfalso; omega) | exact ⟨gi, q + 1, by first | rfl | rw [if_neg (by omega)], fun j u hj => (HB2.out.cell (p := ⟨gi, q + 1 + j, none⟩) lgi).trans (HS2.out j u hj)⟩) (ones_i (xs := xs) fun u hu => List.mem_of_mem_drop hu) l2 (by omega) ?_; intro v3 w3 hrow hg hat; obtain ⟨A3, n3, c3, rfl⟩ := row_form hrow; have hb3 : Below V.heap.size V w3 := Below.grown HB2.out hg l2 (fun k hk => (World.ownsRow.lt HR2.out k hk).1); have HR3 := Lib.hid hrow; have HB3 := Lib.hid hb3; have q43 := (hb3.cell (p := ⟨Wb, 4, none⟩) lW).trans q4; have f43 := (hb3.frozen (p := ⟨Wb, 4, none⟩) lW).trans f4; clear hrow hg hat hb3)
      refine hK.out _ _ (q43) (fun hHeld => ?_)
      clear hK K
      try simp only [Act.put, List.setIfInBounds_toArray, List.set_cons_zero, List.set_cons_succ]
      refine wpAnyH_take (i := 17) (v := ?_) rfl (by kernel_rfl) (by kernel_rfl) (by kernel_rfl) (fun _ _ _ h => h) (Or.inl ⟨by rfl, ?_⟩) (by assumption) ?_
      rotate_left
      · intro w hSw
        try dsimp only at hSw
        first | (go_simp; done) | (go_simp; with_reducible rfl)
      try simp only [Act.put, List.setIfInBounds_toArray, List.set_cons_zero, List.set_cons_succ]
      refine wpAnyH_take (i := 18) (v := ?_) rfl (by kernel_rfl) (by kernel_rfl) (by kernel_rfl) (fun _ _ _ h => h) (Or.inl ⟨by rfl, ?_⟩) (by assumption) ?_
      rotate_left
      · intro w hSw
        try dsimp only at hSw
        first | (go_simp; done) | (go_simp; with_reducible rfl)
      try simp only [Act.put, List.setIfInBounds_toArray, List.set_cons_zero, List.set_cons_succ]
      refine wpAnyH_done (by kernel_rfl) ?_ _
      refine sink_done (o := _) rfl (fun K hK => ?_)
      go_simp
      refine hK _ _ ?_
      go_wp2_with fail
      go_meet
      exact ⟨rfl, A3, n3, c3, outI hq HVV.out HLV.out HB3.out HR3.out⟩
  obtain ⟨rfl, A3, n3, c3, hl2, hv2⟩ := hcut
  clear HVV HLV HS1 HS2 q4 f4 lW lgi hqci hi0 hi1 hi2 hi3 hne4 hcl2 hcl
  have q5 := hl2.c5
  have f5 := hl2.fz 5
  have lW := hl2.ltW
  obtain ⟨Ab, cb2, hvb, hclb, hB⟩ := hl2.formB
  obtain ⟨gb, rfl, hownb, lgb, hcB⟩ := hB (by omega)
  rw [hvb] at q5
  have HVV := Lib.hid hv2
  have HLV := Lib.hid hl2
  have HS1 := Lib.hid (fun (j : Nat) (u : Value) => src_take (q := q) (f := Pe.v) (c := fun i => wc.cell? ⟨gb, i, none⟩) hcB (j := j) (u := u))
  have HS2 := Lib.hid (fun (j : Nat) (u : Value) => src_drop (q := q) (f := Pe.v) (c := fun i => wc.cell? ⟨gb, i, none⟩) hcB (j := j) (u := u))
  clear hl2 hv2 hB hcB hownb hvb
  have hqci : q ≤ cb2 := by omega
  obtain ⟨i1, hi0, hi1, hi2, hi3⟩ := info_bs
  go_upto_region 19 with (fail)
  go_cut [9] from 206 to 224 (fun s9 W => s9 = .int .i64 x.id ∧ ∃ A5 n5 c5, WA w0 W Wb S d t3 True (k + 2) (.slice A3 n3 c3) (.slice A5 n5 c5) (outX xs q))
  case first =>
    by_cases hce : cb2 = q + 1
    · subst hce
      have hqq : (q : Int) ≤ (q : Int) + 1 := by omega
      refine wp_region_sink (S := fun w' => w'.cell? ⟨Wb, 5, none⟩ = some (.slice (some ⟨gb, 0, none⟩) xs.length (q + 1))) 19 (by kernel_rfl) (by kernel_rfl) (by kernel_rfl) (q5) (fun hHeld => ?_)
      simp only [List.take_succ_cons, List.take_zero, Array.replicate]
      refine wpAnyH_take (i := 0) (v := ?_) rfl (by kernel_rfl) (by kernel_rfl) (by kernel_rfl) (fun _ _ _ h => h) (Or.inl ⟨by rfl, ?_⟩) (by assumption) ?_
      rotate_left
      · intro w hSw
        try dsimp only at hSw
        first | (go_simp; done) | (go_simp; with_reducible rfl)
      try simp only [Act.put, List.setIfInBounds_toArray, List.set_cons_zero, List.set_cons_succ]
      refine wpAnyH_take (i := 2) (v := ?_) rfl (by kernel_rfl) (by kernel_rfl) (by kernel_rfl) (fun _ _ _ h => h) (Or.inl ⟨by rfl, ?_⟩) (by assumption) ?_
      rotate_left
      · intro w hSw
        try dsimp only at hSw
        first | (go_simp; done) | (go_simp; with_reducible rfl)
      try simp only [Act.put, List.setIfInBounds_toArray, List.set_cons_zero, List.set_cons_succ]
      refine wpAnyH_take (i := 3) (v := ?_) rfl (by kernel_rfl) (by kernel_rfl) (by kernel_rfl) (fun _ _ _ h => h) (Or.inl ⟨by rfl, ?_⟩) (by assumption) ?_
      rotate_left
      · intro w hSw
        try dsimp only at hSw
        first | (go_simp; done) | (go_simp; with_reducible rfl)
      try simp only [Act.put, List.setIfInBounds_toArray, List.set_cons_zero, List.set_cons_succ]
      refine wpAnyH_take (i := 4) (v := ?_) rfl (by kernel_rfl) (by kernel_rfl) (by kernel_rfl) (fun _ _ _ h => h) (Or.inl ⟨by rfl, ?_⟩) (by assumption) ?_
      rotate_left
      · intro w hSw
        try dsimp only at hSw
        first | (go_simp; done) | (go_simp; with_reducible rfl)
      try simp only [Act.put, List.setIfInBounds_toArray, List.set_cons_zero, List.set_cons_succ]
      refine wpAnyH_take (i := 5) (v := ?_) rfl (by kernel_rfl) (by kernel_rfl) (by kernel_rfl) (fun _ _ _ h => h) (Or.inl ⟨by rfl, ?_⟩) (by assumption) ?_
      rotate_left
      · intro w hSw
        try dsimp only at hSw
        first | (go_simp; done) | (go_simp; with_reducible rfl)
      try simp only [Act.put, List.setIfInBounds_toArray, List.set_cons_zero, List.set_cons_succ]
      refine wpAnyH_take (i := 6) (v := ?_) rfl (by kernel_rfl) (by kernel_rfl) (by kernel_rfl) (fun _ _ _ h => h) (Or.inl ⟨by rfl, ?_⟩) (by assumption) ?_
      rotate_left
      · intro w hSw
        try dsimp only at hSw
        first | (go_simp; done) | (go_simp; with_reducible rfl)
      try simp only [Act.put, List.setIfInBounds_toArray, List.set_cons_zero, List.set_cons_succ]
      refine wpAnyH_take (i := 7) (v := ?_) rfl (by kernel_rfl) (by kernel_rfl) (by kernel_rfl) (fun _ _ _ h => h) (Or.inl ⟨by rfl, ?_⟩) (by assumption) ?_
      rotate_left
      · intro w hSw
        try dsimp only at hSw
        first | (go_simp; done) | (go_simp; with_reducible rfl)
      try simp only [Act.put, List.setIfInBounds_toArray, List.set_cons_zero, List.set_cons_succ]
      refine wpAnyH_take (i := 9) (v := ?_) rfl (by kernel_rfl) (by kernel_rfl) (by kernel_rfl) (fun _ _ _ h => h) (Or.inl ⟨by rfl, ?_⟩) (by assumption) ?_
      rotate_left
      · intro w hSw
        try dsimp only at hSw
        first | (go_simp; done) | (go_simp; with_reducible rfl)
      try simp only [Act.put, List.setIfInBounds_toArray, List.set_cons_zero, List.set_cons_succ]
      refine wpAnyH_take (i := 10) (v := ?_) rfl (by kernel_rfl) (by kernel_rfl) (by kernel_rfl) (fun _ _ _ h => h) (Or.inl ⟨by rfl, ?_⟩) (by assumption) ?_
      rotate_left
      · intro w hSw
        try dsimp only at hSw
        first | (go_simp; done) | (go_simp; with_reducible rfl)
      try simp only [Act.put, List.setIfInBounds_toArray, List.set_cons_zero, List.set_cons_succ]
      refine wpAnyH_take (i := 11) (v := ?_) rfl (by kernel_rfl) (by kernel_rfl) (by kernel_rfl) (fun _ _ _ h => h) (Or.inl ⟨by rfl, ?_⟩) (by assumption) ?_
      rotate_left
      · intro w hSw
        try dsimp only at hSw
        first | (go_simp; done) | (go_simp; with_reducible rfl)
      try simp only [Act.put, List.setIfInBounds_toArray, List.set_cons_zero, List.set_cons_succ]
      refine wpAnyH_take (i := 12) (v := ?_) rfl (by kernel_rfl) (by kernel_rfl) (by kernel_rfl) (fun _ _ _ h => h) (Or.inl ⟨by rfl, ?_⟩) (by assumption) ?_
      rotate_left
      · intro w hSw
        try dsimp only at hSw
        first | (go_simp; done) | (go_simp; with_reducible rfl)
      try simp only [Act.put, List.setIfInBounds_toArray, List.set_cons_zero, List.set_cons_succ]
      refine wpAnyH_take (i := 13) (v := ?_) rfl (by kernel_rfl) (by kernel_rfl) (by kernel_rfl) (fun _ _ _ h => h) (Or.inl ⟨by rfl, ?_⟩) (by assumption) ?_
      rotate_left
      · intro w hSw
        try dsimp only at hSw
        first | (go_simp; done) | (go_simp; with_reducible rfl)
      try simp only [Act.put, List.setIfInBounds_toArray, List.set_cons_zero, List.set_cons_succ]
      refine wpAnyH_take (i := 14) (v := ?_) rfl (by kernel_rfl) (by kernel_rfl) (by kernel_rfl) (fun _ _ _ h => h) (Or.inl ⟨by rfl, ?_⟩) (by assumption) ?_
      rotate_left
      · intro w hSw
        try dsimp only at hSw
        first | (go_simp; done) | (go_simp; with_reducible rfl)
      try simp only [Act.put, List.setIfInBounds_toArray, List.set_cons_zero, List.set_cons_succ]
      refine wpAnyH_take (i := 15) (v := ?_) rfl (by kernel_rfl) (by kernel_rfl) (by kernel_rfl) (fun _ _ _ h => h) (Or.inl ⟨by rfl, ?_⟩) (by assumption) ?_
      rotate_left
      · intro w hSw
        try dsimp only at hSw
        first | (go_simp; done) | (go_simp; with_reducible rfl)
      try simp only [Act.put, List.setIfInBounds_toArray, List.set_cons_zero, List.set_cons_succ]
      refine wpAnyH_ready (rs := [1]) (by kernel_rfl) (by simp) ?_
      refine AllReadyH.cons (o := _) rfl (fun K hK => ?_) AllReadyH.nil
      go_simp
      refine hK.out _ _ ((((Below.refl wc.heap.size wc).alloc (Nat.le_refl _) (.cells #[] 22)).cell (p := ⟨Wb, 5, none⟩) lW).trans q5) (fun hHeld => ?_)
      clear hK K
      try simp only [Act.put, List.setIfInBounds_toArray, List.set_cons_zero, List.set_cons_succ]
      refine wpAnyH_ready (rs := [8]) (by kernel_rfl) (by simp) ?_
      refine AllReadyH.cons (o := _) rfl (fun K hK => ?_) AllReadyH.nil
      (refine step_app1 Try.underlying43 hi0 hi1 hi2 hi3 rfl (by omega) (by rfl) _ _ (by rfl) wc.heap.size (.slice (some ⟨wc.heap.size, 0, none⟩) 0 0) 0 [] (some ⟨gb, 0, none⟩) q (q + 1) ((xs.map Pe.v).take q) (by rfl) (World.ownsRow_made wc #[] 0 (Nat.le_refl _) (by unfold maxLen; omega) (by simp)) (by rfl) (by simp; omega) (fun _ => ⟨gb, 0, rfl, fun j u hj => ((((Below.refl wc.heap.size wc).alloc (Nat.le_refl _) (.cells #[] 22)).cell (p := ⟨gb, 0 + j, none⟩) lgb).trans (HS1.out j u hj))⟩) (ones_v (xs := xs) fun u hu => List.mem_of_mem_take hu) (by simp) (by omega) ?_; intro v2 w2 hrow hg hat; obtain ⟨A2, n2, c2, rfl⟩ := row_form hrow; simp only [List.nil_append, Nat.zero_add] at hrow; have hb2 : Below wc.heap.size wc w2 := b2_of hg; have HR2 := Lib.hid hrow; have HB2 := Lib.hid hb2; have q52 := (hb2.cell (p := ⟨Wb, 5, none⟩) lW).trans q5; have f52 := (hb2.frozen (p := ⟨Wb, 5, none⟩) lW).trans f5; have l2 := hb2.size; clear hrow hg hat hb2)
      refine hK.out _ _ (q52) (fun hHeld => ?_)
      clear hK K
      try simp only [Act.put, List.setIfInBounds_toArray, List.set_cons_zero, List.set_cons_succ]
      refine wpAnyH_ready (rs := [16]) (by kernel_rfl) (by simp) ?_
      refine AllReadyH.cons (o := _) rfl (fun K hK => ?_) AllReadyH.nil
      (refine step_app1 Try.underlying43 hi0 hi1 hi2 hi3 rfl (by omega) (by rfl) _ _ (by rfl) wc.heap.size (.slice A2 n2 c2) q ((xs.map Pe.v).take q) _ 0 _ [] (by rfl) HR2.out (by rfl) (by simp) (by intro hp; exact absurd hp (by omega)) (fun u hu => by cases hu) l2 (by omega) ?_; intro v5 w5 hrow hg hat; obtain ⟨A5, n5, c5, rfl⟩ := row_form hrow; have hb3 : Below wc.heap.size wc w5 := Below.grown HB2.out hg l2 (fun k hk => (World.ownsRow.lt HR2.out k hk).1); have HR3 := Lib.hid (show w5.ownsRow wc.heap.size 22 1 (.slice A5 n5 c5) (q + (xs.length - (q + 1))) ((xs.map Pe.v).take q ++ (xs.map Pe.v).drop (q + 1)) from (by rw [show xs.length - (q + 1) = 0 by omega, show (xs.map Pe.v).drop (q + 1) = [] from List.drop_eq_nil_of_le (by simp; omega)]; exact hrow)); have HB3 := Lib.hid hb3; have q53 := (hb3.cell (p := ⟨Wb, 5, none⟩) lW).trans q5; have f53 := (hb3.frozen (p := ⟨Wb, 5, none⟩) lW).trans f5; clear hrow hg hat hb3)
      refine hK.out _ _ (q53) (fun hHeld => ?_)
      clear hK K
      try simp only [Act.put, List.setIfInBounds_toArray, List.set_cons_zero, List.set_cons_succ]
      refine wpAnyH_take (i := 17) (v := ?_) rfl (by kernel_rfl) (by kernel_rfl) (by kernel_rfl) (fun _ _ _ h => h) (Or.inl ⟨by rfl, ?_⟩) (by assumption) ?_
      rotate_left
      · intro w hSw
        try dsimp only at hSw
        first | (go_simp; done) | (go_simp; with_reducible rfl)
      try simp only [Act.put, List.setIfInBounds_toArray, List.set_cons_zero, List.set_cons_succ]
      refine wpAnyH_take (i := 18) (v := ?_) rfl (by kernel_rfl) (by kernel_rfl) (by kernel_rfl) (fun _ _ _ h => h) (Or.inl ⟨by rfl, ?_⟩) (by assumption) ?_
      rotate_left
      · intro w hSw
        try dsimp only at hSw
        first | (go_simp; done) | (go_simp; with_reducible rfl)
      try simp only [Act.put, List.setIfInBounds_toArray, List.set_cons_zero, List.set_cons_succ]
      refine wpAnyH_done (by kernel_rfl) ?_ _
      refine sink_done (o := _) rfl (fun K hK => ?_)
      go_simp
      refine hK _ _ ?_
      go_wp2_with fail
      go_meet
      exact ⟨rfl, A5, n5, c5, outB HUP.out HQX.out HVV.out HLV.out HCM.out HB3.out HR3.out⟩
    ·
      refine wp_region_sink (S := fun w' => w'.cell? ⟨Wb, 5, none⟩ = some (.slice (some ⟨gb, 0, none⟩) xs.length cb2)) 19 (by kernel_rfl) (by kernel_rfl) (by kernel_rfl) (q5) (fun hHeld => ?_)
      simp only [List.take_succ_cons, List.take_zero, Array.replicate]
      refine wpAnyH_take (i := 0) (v := ?_) rfl (by kernel_rfl) (by kernel_rfl) (by kernel_rfl) (fun _ _ _ h => h) (Or.inl ⟨by rfl, ?_⟩) (by assumption) ?_
      rotate_left
      · intro w hSw
        try dsimp only at hSw
        first | (go_simp; done) | (go_simp; with_reducible rfl)
      try simp only [Act.put, List.setIfInBounds_toArray, List.set_cons_zero, List.set_cons_succ]
      refine wpAnyH_take (i := 2) (v := ?_) rfl (by kernel_rfl) (by kernel_rfl) (by kernel_rfl) (fun _ _ _ h => h) (Or.inl ⟨by rfl, ?_⟩) (by assumption) ?_
      rotate_left
      · intro w hSw
        try dsimp only at hSw
        first | (go_simp; done) | (go_simp; with_reducible rfl)
      try simp only [Act.put, List.setIfInBounds_toArray, List.set_cons_zero, List.set_cons_succ]
      refine wpAnyH_take (i := 3) (v := ?_) rfl (by kernel_rfl) (by kernel_rfl) (by kernel_rfl) (fun _ _ _ h => h) (Or.inl ⟨by rfl, ?_⟩) (by assumption) ?_
      rotate_left
      · intro w hSw
        try dsimp only at hSw
        first | (go_simp; done) | (go_simp; with_reducible rfl)
      try simp only [Act.put, List.setIfInBounds_toArray, List.set_cons_zero, List.set_cons_succ]
      refine wpAnyH_take (i := 4) (v := ?_) rfl (by kernel_rfl) (by kernel_rfl) (by kernel_rfl) (fun _ _ _ h => h) (Or.inl ⟨by rfl, ?_⟩) (by assumption) ?_
      rotate_left
      · intro w hSw
        try dsimp only at hSw
        first | (go_simp; done) | (go_simp; with_reducible rfl)
      try simp only [Act.put, List.setIfInBounds_toArray, List.set_cons_zero, List.set_cons_succ]
      refine wpAnyH_take (i := 5) (v := ?_) rfl (by kernel_rfl) (by kernel_rfl) (by kernel_rfl) (fun _ _ _ h => h) (Or.inl ⟨by rfl, ?_⟩) (by assumption) ?_
      rotate_left
      · intro w hSw
        try dsimp only at hSw
        first | (go_simp; done) | (go_simp; with_reducible rfl)
      try simp only [Act.put, List.setIfInBounds_toArray, List.set_cons_zero, List.set_cons_succ]
      refine wpAnyH_take (i := 6) (v := ?_) rfl (by kernel_rfl) (by kernel_rfl) (by kernel_rfl) (fun _ _ _ h => h) (Or.inl ⟨by rfl, ?_⟩) (by assumption) ?_
      rotate_left
      · intro w hSw
        try dsimp only at hSw
        first | (go_simp; done) | (go_simp; with_reducible rfl)
      try simp only [Act.put, List.setIfInBounds_toArray, List.set_cons_zero, List.set_cons_succ]
      refine wpAnyH_take (i := 7) (v := ?_) rfl (by kernel_rfl) (by kernel_rfl) (by kernel_rfl) (fun _ _ _ h => h) (Or.inl ⟨by rfl, ?_⟩) (by assumption) ?_
      rotate_left
      · intro w hSw
        try dsimp only at hSw
        first | (go_simp; done) | (go_simp; with_reducible rfl)
      try simp only [Act.put, List.setIfInBounds_toArray, List.set_cons_zero, List.set_cons_succ]
      refine wpAnyH_take (i := 9) (v := ?_) rfl (by kernel_rfl) (by kernel_rfl) (by kernel_rfl) (fun _ _ _ h => h) (Or.inl ⟨by rfl, ?_⟩) (by assumption) ?_
      rotate_left
      · intro w hSw
        try dsimp only at hSw
        first | (go_simp; done) | (go_simp; with_reducible rfl)
      try simp only [Act.put, List.setIfInBounds_toArray, List.set_cons_zero, List.set_cons_succ]
      refine wpAnyH_take (i := 10) (v := ?_) rfl (by kernel_rfl) (by kernel_rfl) (by kernel_rfl) (fun _ _ _ h => h) (Or.inl ⟨by rfl, ?_⟩) (by assumption) ?_
      rotate_left
      · intro w hSw
        try dsimp only at hSw
        first | (go_simp; done) | (go_simp; with_reducible rfl)
      try simp only [Act.put, List.setIfInBounds_toArray, List.set_cons_zero, List.set_cons_succ]
      refine wpAnyH_take (i := 11) (v := ?_) rfl (by kernel_rfl) (by kernel_rfl) (by kernel_rfl) (fun _ _ _ h => h) (Or.inl ⟨by rfl, ?_⟩) (by assumption) ?_
      rotate_left
      · intro w hSw
        try dsimp only at hSw
        first | (go_simp; done) | (go_simp; with_reducible rfl)
      try simp only [Act.put, List.setIfInBounds_toArray, List.set_cons_zero, List.set_cons_succ]
      refine wpAnyH_take (i := 12) (v := ?_) rfl (by kernel_rfl) (by kernel_rfl) (by kernel_rfl) (fun _ _ _ h => h) (Or.inl ⟨by rfl, ?_⟩) (by assumption) ?_
      rotate_left
      · intro w hSw
        try dsimp only at hSw
        first | (go_simp; done) | (go_simp; with_reducible rfl)
      try simp only [Act.put, List.setIfInBounds_toArray, List.set_cons_zero, List.set_cons_succ]
      refine wpAnyH_take (i := 13) (v := ?_) rfl (by kernel_rfl) (by kernel_rfl) (by kernel_rfl) (fun _ _ _ h => h) (Or.inl ⟨by rfl, ?_⟩) (by assumption) ?_
      rotate_left
      · intro w hSw
        try dsimp only at hSw
        first | (go_simp; done) | (go_simp; with_reducible rfl)
      try simp only [Act.put, List.setIfInBounds_toArray, List.set_cons_zero, List.set_cons_succ]
      refine wpAnyH_take (i := 14) (v := ?_) rfl (by kernel_rfl) (by kernel_rfl) (by kernel_rfl) (fun _ _ _ h => h) (Or.inl ⟨by rfl, ?_⟩) (by assumption) ?_
      rotate_left
      · intro w hSw
        try dsimp only at hSw
        first | (go_simp; done) | (go_simp; with_reducible rfl)
      try simp only [Act.put, List.setIfInBounds_toArray, List.set_cons_zero, List.set_cons_succ]
      refine wpAnyH_take (i := 15) (v := ?_) rfl (by kernel_rfl) (by kernel_rfl) (by kernel_rfl) (fun _ _ _ h => h) (Or.inl ⟨by rfl, ?_⟩) (by assumption) ?_
      rotate_left
      · intro w hSw
        try dsimp only at hSw
        first | (go_simp; done) | (go_simp; with_reducible rfl)
      try simp only [Act.put, List.setIfInBounds_toArray, List.set_cons_zero, List.set_cons_succ]
      refine wpAnyH_ready (rs := [1]) (by kernel_rfl) (by simp) ?_
      refine AllReadyH.cons (o := _) rfl (fun K hK => ?_) AllReadyH.nil
      go_simp
      refine hK.out _ _ ((((Below.refl wc.heap.size wc).alloc (Nat.le_refl _) (.cells #[] 22)).cell (p := ⟨Wb, 5, none⟩) lW).trans q5) (fun hHeld => ?_)
      clear hK K
      try simp only [Act.put, List.setIfInBounds_toArray, List.set_cons_zero, List.set_cons_succ]
      refine wpAnyH_ready (rs := [8]) (by kernel_rfl) (by simp) ?_
      refine AllReadyH.cons (o := _) rfl (fun K hK => ?_) AllReadyH.nil
      (refine step_app1 Try.underlying43 hi0 hi1 hi2 hi3 rfl (by omega) (by rfl) _ _ (by rfl) wc.heap.size (.slice (some ⟨wc.heap.size, 0, none⟩) 0 0) 0 [] (some ⟨gb, 0, none⟩) q cb2 ((xs.map Pe.v).take q) (by rfl) (World.ownsRow_made wc #[] 0 (Nat.le_refl _) (by unfold maxLen; omega) (by simp)) (by rfl) (by simp; omega) (fun _ => ⟨gb, 0, rfl, fun j u hj => ((((Below.refl wc.heap.size wc).alloc (Nat.le_refl _) (.cells #[] 22)).cell (p := ⟨gb, 0 + j, none⟩) lgb).trans (HS1.out j u hj))⟩) (ones_v (xs := xs) fun u hu => List.mem_of_mem_take hu) (by simp) (by omega) ?_; intro v2 w2 hrow hg hat; obtain ⟨A2, n2, c2, rfl⟩ := row_form hrow; simp only [List.nil_append, Nat.zero_add] at hrow; have hb2 : Below wc.heap.size wc w2 := b2_of hg; have HR2 := Lib.hid hrow; have HB2 := Lib.hid hb2; have q52 := (hb2.cell (p := ⟨Wb, 5, none⟩) lW).trans q5; have f52 := (hb2.frozen (p := ⟨Wb, 5, none⟩) lW).trans f5; have l2 := hb2.size; clear hrow hg hat hb2)
      refine hK.out _ _ (q52) (fun hHeld => ?_)
      clear hK K
      try simp only [Act.put, List.setIfInBounds_toArray, List.set_cons_zero, List.set_cons_succ]
      refine wpAnyH_ready (rs := [16]) (by kernel_rfl) (by simp) ?_
      refine AllReadyH.cons (o := _) rfl (fun K hK => ?_) AllReadyH.nil
      (refine step_app1 Try.underlying43 hi0 hi1 hi2 hi3 rfl (by omega) (by rfl) _ _ (by rfl) wc.heap.size (.slice A2 n2 c2) q ((xs.map Pe.v).take q) _ (xs.length - (q + 1)) _ ((xs.map Pe.v).drop (q + 1)) (by rfl) HR2.out (by rfl) (by simp) (by intro hp; first | (exfalso; omega) | exact ⟨gb, q + 1, by first | rfl | rw [if_neg (by omega)], fun j u hj => (HB2.out.cell (p := ⟨gb, q + 1 + j, none⟩) lgb).trans (HS2.out j u hj)⟩) (ones_v (xs := xs) fun u hu => List.mem_of_mem_drop hu) l2 (by omega) ?_; intro v5 w5 hrow hg hat; obtain ⟨A5, n5, c5, rfl⟩ := row_form hrow; have hb3 : Below wc.heap.size wc w5 := Below.grown HB2.out hg l2 (fun k hk => (World.ownsRow.lt HR2.out k hk).1); have HR3 := Lib.hid hrow; have HB3 := Lib.hid hb3; have q53 := (hb3.cell (p := ⟨Wb, 5, none⟩) lW).trans q5; have f53 := (hb3.frozen (p := ⟨Wb, 5, none⟩) lW).trans f5; clear hrow hg hat hb3)
      refine hK.out _ _ (q53) (fun hHeld => ?_)
      clear hK K
      try simp only [Act.put, List.setIfInBounds_toArray, List.set_cons_zero, List.set_cons_succ]
      refine wpAnyH_take (i := 17) (v := ?_) rfl (by kernel_rfl) (by kernel_rfl) (by kernel_rfl) (fun _ _ _ h => h) (Or.inl ⟨by rfl, ?_⟩) (by assumption) ?_
      rotate_left
      · intro w hSw
        try dsimp only at hSw
        first | (go_simp; done) | (go_simp; with_reducible rfl)
      try simp only [Act.put, List.setIfInBounds_toArray, List.set_cons_zero, List.set_cons_succ]
      refine wpAnyH_take (i := 18) (v := ?_) rfl (by kernel_rfl) (by kernel_rfl) (by kernel_rfl) (fun _ _ _ h => h) (Or.inl ⟨by rfl, ?_⟩) (by assumption) ?_
      rotate_left
      · intro w hSw
        try dsimp only at hSw
        first | (go_simp; done) | (go_simp; with_reducible rfl)
      try simp only [Act.put, List.setIfInBounds_toArray, List.set_cons_zero, List.set_cons_succ]
      refine wpAnyH_done (by kernel_rfl) ?_ _
      refine sink_done (o := _) rfl (fun K hK => ?_)
      go_simp
      refine hK _ _ ?_
      go_wp2_with fail
      go_meet
      exact ⟨rfl, A5, n5, c5, outB HUP.out HQX.out HVV.out HLV.out HCM.out HB3.out HR3.out⟩
  obtain ⟨rfl, A5, n5, c5, hw3⟩ := hcut
  clear HVV HLV HS1 HS2 q5 f5 lW lgb hqci hi0 hi1 hi2 hi3
  have HCN : Hid (CnX (outX xs q) x.id = none) := Lib.hid (by rw [CnX_out HUP.out HQX.out]; unfold updC; rw [if_pos rfl])
  have q0 := hw3.wl.c0
  have lW := hw3.wl.ltW
  have HR := Lib.hid (vw_read_none (k := k + 1) (off := 0) (n := 0) hw3.vw HCN.out HIB.out)
  have HW3 := Lib.hid hw3
  clear hw3
  go_wp2_with fail
  refine HR.out.mono ?_
  rintro e V4 ⟨t4, rfl, hv4, hn4, hm4⟩
  have hw4 := HW3.out.nx hv4 hn4 hm4
  have HW4 := Lib.hid hw4
  have q0 := hw4.wl.c0
  have lW := hw4.wl.ltW
  have HD := Lib.hid (vw_drop_none hw4.vw HCN.out HIB.out)
  clear hw4 hv4 hn4 hm4 HR HW3
  go_wp2_with fail
  refine HD.out.mono ?_
  rintro e V5 ⟨rfl, hv5, hn5⟩
  have hw5 : WA w0 V5 Wb S d t4 True (k + 1) (.slice A3 n3 c3) (.slice A5 n5 c5) (outX xs q) := ⟨hv5, HW4.out.wl.nx hn5, HW4.out.up, HW4.out.cm⟩
  have HW5 := Lib.hid hw5
  have q0 := hw5.wl.c0
  have lW := hw5.wl.ltW
  have HWR := Lib.hid (vw_write_none (off := 0) (A := none) (n := 0) (cb := 0) (by_ := []) hw5.vw HCN.out HIB.out (SBy.nil _ _) (by omega) (fun b o n c e => by cases e))
  clear hw5 hv5 hn5 HD HW4
  go_wp2_with fail
  refine HWR.out.mono ?_
  rintro e V6 ⟨rfl, t6, hv6, hn6, hm6⟩
  have HW6 := Lib.hid (HW5.out.nx hv6 hn6 hm6)
  clear hv6 hn6 hm6 HWR HW5
  go_wp2
  go_ret
  exact ⟨rfl, t6, _, _, _, HW6.out, by rw [outX_len hq]; omega⟩
end
end Go.Proofs.Ytmipngefpedfpaa
