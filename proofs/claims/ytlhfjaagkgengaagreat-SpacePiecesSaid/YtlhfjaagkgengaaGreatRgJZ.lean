/- region: Map. -/
import Derived.Test.YtlhfjaagkgengaaGreatRgIZ
namespace Go.Proofs.YtlhfjaagkgengaaGreat
open Go.RowKit
set_option linter.unusedVariables false
set_option linter.unusedSimpArgs false
theorem results_se {fn : Func} {p q : Tmp} (h : fn.results = #[.cell p 41, .cell q 32]) (tmps : Array Value) (w : World) (g1 g2 : Nat) (A : Option Addr) (n c : Nat) (x : Int) (hp : tmps.getD p undef = .pointer (some ⟨g1, 0, none⟩)) (hq : tmps.getD q undef = .pointer (some ⟨g2, 0, none⟩)) (h1 : w.cell? ⟨g1, 0, none⟩ = some (.slice A n c)) (h2 : w.cell? ⟨g2, 0, none⟩ = some (.int .i64 x)) :
    (results fn tmps).run Tryz.prog w = .ok (.tuple #[.slice A n c, .int .i64 x]) w := by
  have l1 : (loadVar 41 ⟨g1, 0, none⟩).run Tryz.prog w = .ok (.slice A n c) w := by simp [go_sem, h1]
  have l2 : (loadVar 32 ⟨g2, 0, none⟩).run Tryz.prog w = .ok (.int .i64 x) w := by simp [go_sem, h2]
  have hp2 : tmps[p]?.getD undef = .pointer (some ⟨g1, 0, none⟩) := by rw [← hp]; simp [Array.getD_eq_getD_getElem?]
  have hq2 : tmps[q]?.getD undef = .pointer (some ⟨g2, 0, none⟩) := by rw [← hq]; simp [Array.getD_eq_getD_getElem?]
  simp [results, h, hp2, hq2, asAddr, l1, l2, Result.andThen]
/-- The two boxes of Map's answer. -/
structure MpAt (b8 b9 : Nat) (A : Option Addr) (n c : Nat) (x : Int) (w : World) : Prop where
  c8 : w.cell? ⟨b8, 0, none⟩ = some (.slice A n c)
  f8 : w.frozen? ⟨b8, 0, none⟩ = false
  c9 : w.cell? ⟨b9, 0, none⟩ = some (.int .i64 x)
  f9 : w.frozen? ⟨b9, 0, none⟩ = false
def mpO (b8 b9 : Nat) : Nat → Prop := fun k => k = b8 ∨ k = b9
section
variable {b8 b9 : Nat} {A : Option Addr} {n c : Nat} {x : Int} {w w' : World} {S : Nat → Prop}
theorem MpAt.off (h : MpAt b8 b9 A n c x w) (ho : Off S w w') (hs : ∀ k, S k → ¬ mpO b8 b9 k) : MpAt b8 b9 A n c x w' :=
  ⟨(ho.cell (p := ⟨b8, 0, none⟩) (lt_of_cell h.c8) (fun e => hs _ e (.inl rfl))).trans h.c8, (ho.frozen (p := ⟨b8, 0, none⟩) (lt_of_cell h.c8) (fun e => hs _ e (.inl rfl))).trans h.f8,
    (ho.cell (p := ⟨b9, 0, none⟩) (lt_of_cell h.c9) (fun e => hs _ e (.inr rfl))).trans h.c9, (ho.frozen (p := ⟨b9, 0, none⟩) (lt_of_cell h.c9) (fun e => hs _ e (.inr rfl))).trans h.f9⟩
theorem MpAt.lt (h : MpAt b8 b9 A n c x w) {k : Nat} (hk : mpO b8 b9 k) : k < w.heap.size := by
  rcases hk with rfl | rfl
  · exact lt_of_cell h.c8
  · exact lt_of_cell h.c9
theorem MpAt.set (h : MpAt b8 b9 A n c x w) (hne : b8 ≠ b9) (A' : Option Addr) (n' c' : Nat) (x' : Int) :
    MpAt b8 b9 A' n' c' x' ((w.setCell ⟨b8, 0, none⟩ (.slice A' n' c')).setCell ⟨b9, 0, none⟩ (.int .i64 x')) ∧ Off (mpO b8 b9) w ((w.setCell ⟨b8, 0, none⟩ (.slice A' n' c')).setCell ⟨b9, 0, none⟩ (.int .i64 x')) := by
  have o1 : Off (· = b8) w (w.setCell ⟨b8, 0, none⟩ (.slice A' n' c')) := (Off.refl (· = b8) w).setCell (p := ⟨b8, 0, none⟩) rfl _
  have o2 : Off (· = b9) (w.setCell ⟨b8, 0, none⟩ (.slice A' n' c')) ((w.setCell ⟨b8, 0, none⟩ (.slice A' n' c')).setCell ⟨b9, 0, none⟩ (.int .i64 x')) := (Off.refl (· = b9) _).setCell (p := ⟨b9, 0, none⟩) rfl _
  have k9 : (w.setCell ⟨b8, 0, none⟩ (.slice A' n' c')).cell? ⟨b9, 0, none⟩ = some (.int .i64 x) := (o1.cell (p := ⟨b9, 0, none⟩) (lt_of_cell h.c9) (fun e => hne e.symm)).trans h.c9
  have k8 := World.cell?_setCell_same w ⟨b8, 0, none⟩ (.slice A' n' c') h.c8
  refine ⟨⟨(o2.cell (p := ⟨b8, 0, none⟩) (lt_of_cell k8) (fun e => hne e)).trans k8, ?_, World.cell?_setCell_same _ _ _ k9, ?_⟩, (o1.mono fun k e => .inl e).trans (o2.mono fun k e => .inr e)⟩
  · rw [World.frozen?_setCell, World.frozen?_setCell]; exact h.f8
  · rw [World.frozen?_setCell, World.frozen?_setCell]; exact h.f9
end
def mapSt (_ : Bool) (_ : Rg) : Bool × Bool := (false, false)
theorem mapSt_fold (L : List Rg) : foldL mapSt true L = decide (L = []) := by
  cases L with
  | nil => rfl
  | cons x L => rfl
set_option maxRecDepth 100000 in
set_option maxHeartbeats 4000000 in
theorem mapG_any (w : World) {A : Option Addr} (c : Nat) {L : List Rg} (hL : RgAt w A L) (hn : L.length ≤ 10000) (lo hi p : Int) (hd : rightB lo hi p = true → piecesF L lo hi = [] → RgDist (L ++ [⟨lo, hi, p⟩])) :
    Calls Tryz.prog 100 #[.slice A L.length c, .int .i64 lo, .int .i64 hi, .int .i64 p] w (RgPost w (mapF L lo hi p)) := by
  have HL := Lib.hid hL
  obtain ⟨b1, hb1⟩ : ∃ b, rightB lo hi p = b := ⟨_, rfl⟩
  have HR : Hid (∀ w, Calls Tryz.prog 143 #[.int .i64 lo, .int .i64 hi, .int .i64 p] w fun e w' => e = .returned (.bool b1) ∧ w' = w) := Lib.hid fun w => by rw [← hb1]; exact rright_any w lo hi p
  have HD := Lib.hid hd
  obtain ⟨R, hR⟩ : ∃ R, mapF L lo hi p = R := ⟨_, rfl⟩
  have HRR := Lib.hid hR
  unfold mapF at HRR
  rw [hR]
  rw [hb1] at HD HRR
  clear hL hd hb1 hR
  refine (callsIn_wide (n := 9)).1 ?_
  refine callsIn_of_wp_marks Tryz.func100 rfl trivial ?_ rfl
  simp only [Tryz.ntmps100, List.size_toArray, List.length_cons, List.length_nil, Nat.reduceAdd, Nat.reduceSub, Array.replicate_succ, Array.replicate_zero, List.push_toArray, List.append_toArray, List.nil_append, List.cons_append]
  refine wpIn_wide.2 ?_
  go_upto_region 1 with (fail)
  refine wp_forget (fun W => Below w.heap.size w W ∧ MpAt w.heap.size (w.heap.size + 1) none 0 0 0 W ∧ W.heap.size = w.heap.size + 2) ?_ ?_
  · have s1 : (w.alloc (.cells #[.slice none 0 0] 41)).heap.size = w.heap.size + 1 := by simp
    have b1 : Below w.heap.size w (w.alloc (.cells #[.slice none 0 0] 41)) := (Below.refl _ _).alloc (Nat.le_refl _) _
    have c1 := alloc_at w (.slice none 0 0) 41
    generalize w.alloc (.cells #[.slice none 0 0] 41) = W1 at *
    have b2 : Below W1.heap.size W1 (W1.alloc (.cells #[.int .i64 0] 32)) := (Below.refl _ _).alloc (Nat.le_refl _) _
    have c2 := alloc_at W1 (.int .i64 0) 32
    rw [s1] at c2
    exact ⟨b1.trans (b2.mono (by omega)), ⟨(b2.cell (p := ⟨w.heap.size, 0, none⟩) (by show w.heap.size < W1.heap.size; omega)).trans c1.1, (b2.frozen (p := ⟨w.heap.size, 0, none⟩) (by show w.heap.size < W1.heap.size; omega)).trans c1.2, c2.1, c2.2⟩, by simp [s1]⟩
  rintro W0 ⟨hb0, hmp, hs0⟩
  obtain ⟨g8, hg8⟩ : ∃ g, w.heap.size = g := ⟨_, rfl⟩
  obtain ⟨g9, hg9⟩ : ∃ g, g8 + 1 = g := ⟨_, rfl⟩
  rw [hg8, hg9] at hmp
  rw [hg8, hg9]
  have HB0 := Lib.hid hb0
  have HMP := Lib.hid hmp
  have HS0 := Lib.hid hs0
  have HG := Lib.hid (And.intro hg8 hg9)
  have c8 := hmp.c8
  have f8 := hmp.f8
  have c9 := hmp.c9
  have f9 := hmp.f9
  have l8 := lt_of_cell c8
  have l9 := lt_of_cell c9
  have HNE : Hid (g8 ≠ g9) := Lib.hid (by omega)
  clear hb0 hmp hs0 hg8 hg9
  have HEND : Hid (∀ (Tm : Array Value) (V : World) (D : Nat) (A' : Option Addr) (c' : Nat), Tm.getD 8 undef = .pointer (some ⟨g8, 0, none⟩) → Tm.getD 9 undef = .pointer (some ⟨g9, 0, none⟩) → w.heap.size ≤ D → V.heap[D]? = some (.deferred (some [])) → ¬ mpO g8 g9 D → MpAt g8 g9 A' R.1.length c' R.2 V → FrG w V (.slice A' R.1.length c') R.1 → (Value.slice A' R.1.length c').ownBlock ≠ some D → bodyPostM Fence.wide 9 Tryz.prog Tryz.f100 (RgPost w R) .ret { tmps := Tm, defers := [{ target := .collected D, args := #[] }] } V) := Lib.hid fun Tm V D A' c' hT hT9 hD hd hne hm hf hnb => by
    have ho := off_putObj V (l := D) (.deferred none)
    have hm2 := hm.off ho (fun k e e2 => by rw [e] at e2; exact hne e2)
    exact leaves_one hd (results_se rfl Tm _ g8 g9 _ _ _ _ hT hT9 hm2.c8 hm2.c9) ⟨A', c', rfl, hf.1.off ho (fun k e e2 => by rw [e2] at e; exact hnb e), hf.2.trans (ho.below (fun k e => by rw [e]; exact hD) hf.2.size)⟩
  cases b1 with
  | false =>
    have hr : R = ([], 1) := by rw [← HRR.out]; rfl
    subst hr
    have hne := HNE.out
    have hne2 : ¬ g9 = g8 := fun e => hne e.symm
    go_wp2_with (go_at_call 143; refine (HR.out _).mono ?_; rintro e W0 ⟨rfl, rfl⟩)
    have hset := HMP.out.set HNE.out none 0 0 1
    exact ⟨_, results_se rfl _ _ g8 g9 none 0 0 1 rfl rfl hset.1.c8 hset.1.c9, none, 0, rfl, OwG.nil _ _, HB0.out.trans (hset.2.below (fun k e => by have h1 := HG.out; rcases e with e | e <;> omega) HB0.out.size)⟩
  | true =>
    simp only [Bool.true_eq_false, if_false] at HRR
    have HPI := Lib.hid (pieces_any W0 c (HL.out.up HB0.out) (by omega) lo hi)
    go_wp2_with (first | (go_at_call 143; refine (HR.out _).mono ?_; rintro e W0 ⟨rfl, rfl⟩) | (go_at_call 144; refine HPI.out.mono ?_; rintro e W2 ⟨A', c', rfl, hpc, hb2, hs2, hrow⟩))
    have HMP2 : Hid (MpAt g8 g9 none 0 0 0 W2) := Lib.hid (HMP.out.off (S := fun _ => False) (Off.of_below hb2) (fun _ => False.elim))
    have HPC := Lib.hid hpc
    have HB2 := Lib.hid (HB0.out.trans (hb2.mono HB0.out.size))
    have HROW := Lib.hid hrow
    have HLT : Hid (∀ k, mpO g8 g9 k → k < W0.heap.size) := Lib.hid fun k hk => HMP.out.lt hk
    have HS2 := Lib.hid hs2
    clear hpc hb2 hs2 hrow HMP HPI HB0 c8 f8 c9 f9 l8 l9 HR
    refine (wpIn_wide (n := 9)).1 ?_
    refine range_list (E := Rg) (args := Rg.args) (Ov := mpO g8 g9) (ent_fn Tryz.func168 (by kernel_rfl) rfl) rfl (fun x => rfl) mapSt id (fun x e h => rfl)
      (fun w O1 _ => (∀ k, O1 k ↔ mpO g8 g9 k) ∧ MpAt g8 g9 none 0 0 0 w) (fun c w O1 _ => (∀ k, O1 k ↔ mpO g8 g9 k) ∧ c = .ret ∧ MpAt g8 g9 none 0 0 3 w)
      (fun {S O w w' x} h ho hs => ⟨h.1, h.2.off ho (fun k e2 e3 => hs k e2 ((h.1 k).2 e3))⟩) (fun {O w x k} h hk => h.2.lt ((h.1 k).1 hk))
      (fun {c S O w w' x} h ho hs => ⟨h.1, h.2.1, h.2.2.off ho (fun k e2 e3 => hs k e2 ((h.1 k).2 e3))⟩) (fun {c O w x k} h hk => h.2.2.lt ((h.1 k).1 hk))
      ?a1 (fun e W W' => True) true rfl (piecesF L lo hi) ⟨fun k => Iff.rfl, HMP2.out⟩ ?iter ?assign ?body ?fin
    case iter =>
      intro Y V1 O1 hb hiv hO1
      refine pieces1_any Y (fun x e h => rfl) hiv rfl (HPC.out.off (S := fun _ => False) (Off.of_below hb) (fun _ => False.elim)) (fun k hk e => ?_) (by omega)
      have h1 : W0.heap.size ≤ k := by
        rcases hk with e | e | e | e
        · omega
        · omega
        · omega
        · exact HROW.out k e
      have h2 := HPC.out.lt hk
      rcases hO1 k e with e | e
      · have := HLT.out k e; omega
      · omega
    case assign =>
      intro l x W' K hK
      have HK := Lib.hid hK
      clear hK
      simp only [Rg.args]
      gi_wp2
      exact HK.out _ (Below.refl _ _) trivial
    case body =>
      intro l x e V0 V1 V O1 hiv hx hb hrel hof hl hlt
      have c8 := hiv.2.c8
      have f8 := hiv.2.f8
      have c9 := hiv.2.c9
      have f9 := hiv.2.f9
      have l8 := lt_of_cell c8
      have l9 := lt_of_cell c9
      have HO1 := Lib.hid hiv.1
      have HSET := Lib.hid (hiv.2.set HNE.out none 0 0 3)
      have hne := HNE.out
      have hne2 : ¬ g9 = g8 := fun e => hne e.symm
      clear hiv hof hlt hl
      gi_wp2
      exact ⟨rfl, O1, ⟨HO1.out, rfl, HSET.out.1⟩, HSET.out.2.mono (fun k e => (HO1.out k).2 e), fun k hk => .inl hk⟩
    case fin =>
      intro D W4 O1 y hy hD hdf hof hO1
      have hDn : ¬ mpO g8 g9 D ∧ w.heap.size ≤ D ∧ W0.heap.size ≤ D := by have h1 := HG.out; have h3 := HS0.out; have h5 := HS2.out; exact ⟨(by rintro (e | e) <;> omega), by omega, by omega⟩
      have hbw : Below w.heap.size w W4 := HB2.out.trans (hof.below (fun k e => by have h1 := HG.out; rcases e with e | e <;> omega) HB2.out.size)
      have HBW := Lib.hid hbw
      have HDF := Lib.hid hdf
      rw [mapSt_fold] at hy
      refine ⟨fun hal hiv => ?_, fun hal c' hix => ?_⟩
      · have hpe : piecesF L lo hi = [] := by
          rw [hy] at hal
          exact of_decide_eq_true hal
        have hr : R = (joinedR (L ++ [⟨lo, hi, p⟩]), 0) := by rw [← HRR.out, if_neg (fun h => h hpe)]
        have HDD := Lib.hid (HD.out (by trivial) hpe)
        obtain ⟨N, hN⟩ : ∃ N, L ++ [(⟨lo, hi, p⟩ : Rg)] = N := ⟨_, rfl⟩
        rw [hN] at HDD hr
        subst hr
        have HM := Lib.hid hiv.2
        have HCL := Lib.hid (cloneG_any W4 c (HL.out.up HBW.out) (by omega))
        have HPJ : Hid (∀ w3 A1 c1, FrG W4 w3 (.slice A1 L.length c1) L → ∃ A' c' w', (Builtin.append_ #[41, 41] 41 #[.slice A1 L.length c1, .slice (some ⟨w3.heap.size, 0, none⟩) 1 1]).run Tryz.prog (w3.alloc (.cells #[.int .i64 lo, .int .i64 hi, .int .i64 p] 62)) = .ok (.slice A' N.length c') w' ∧
          Calls Tryz.prog 145 #[.slice A' N.length c'] w' fun e w5 => ∃ A2 c2, e = .returned (.slice A2 (joinedR N).length c2) ∧ FrG W4 w5 (.slice A2 (joinedR N).length c2) (joinedR N)) := Lib.hid fun w3 A1 c1 h => h.pushJoin lo hi p hN HDD.out (by omega)
        have HLD := Lib.hid (Array.getElem?_eq_some_iff.1 hdf).1
        have hne := HNE.out
        have hne2 : ¬ g9 = g8 := fun e => hne e.symm
        clear hbw hdf hof hO1 hy hal hpe hiv hN HRR HDD HD HROW HPC HMP2 HLT HB2
        go_wp2_with (first
          | (go_at_call 78; go_loud (refine HCL.out.mono ?_; rintro e w3 ⟨A1, c1, rfl, how, hb3⟩; obtain ⟨A2, c2, w4, hr2, hj⟩ := HPJ.out _ _ _ ⟨how, hb3⟩; have HJ := Lib.hid hj; clear how hb3 hj HPJ))
          | (at_builtin; go_must (refine wpList_append_run rfl (.tmp 21) (.tmp 26) 41 rfl _ _ rfl rfl hr2 ?_))
          | (go_at_call 145; go_loud (refine HJ.out.mono ?_; rintro e w5 ⟨A3, c3, rfl, hf⟩; have hm5 := HM.out.off (S := fun _ => False) (Off.of_below hf.2) (fun _ => False.elim); have HM5 := Lib.hid hm5; have HF5 := Lib.hid hf; obtain ⟨c8, f8, c9, f9⟩ := hm5; have l8 := lt_of_cell c8; have l9 := lt_of_cell c9; clear hf)))
        have hset := HM5.out.set HNE.out A3 (joinedR N).length c3 0
        have hf5 := HF5.out
        have hbm : ∀ k, mpO g8 g9 k → k < W4.heap.size := fun k hk => HM.out.lt hk
        have hb5 := HBW.out.trans (hf5.2.mono HBW.out.size)
        have hown : ∀ k, (Value.slice A3 (joinedR N).length c3).ownBlock = some k → W4.heap.size ≤ k := fun k e => (hf5.1.lt e).1
        have hLD := HLD.out
        refine HEND.out _ _ D A3 c3 rfl rfl hDn.2.1 (heap_off ((hf5.2.block D hLD).trans HDF.out) hset.2 hDn.1) hDn.1 hset.1 ⟨(hf5.1.off hset.2 (fun k e e2 => by have := hown k e; have := hbm k e2; omega)).low HBW.out.size, hb5.trans (hset.2.below (fun k e => by have h1 := HG.out; rcases e with e | e <;> omega) hb5.size)⟩ (fun e => by have := hown D e; omega)
      · obtain ⟨hO1b, rfl, hm⟩ := hix
        have hpe : piecesF L lo hi ≠ [] := by
          rw [hy] at hal
          exact of_decide_eq_false hal
        have hr : R = ([], 3) := by rw [← HRR.out, if_pos hpe]
        subst hr
        have HM := Lib.hid hm
        clear hbw hdf hof hO1 hy hal hO1b hm hpe
        gi_wp2
        exact HEND.out _ _ D none 0 rfl rfl hDn.2.1 HDF.out hDn.1 HM.out ⟨OwG.nil _ _, HBW.out⟩ (fun e => by cases e)
end Go.Proofs.YtlhfjaagkgengaaGreat
