/- lz.greedy. -/
import Derived.Test.YtlmgihnnphmmhaaMO
namespace Go.Proofs.Ytlmgihnnphmmhaa
open Go.RowKit Go.Shelf
set_option linter.unusedVariables false
set_option linter.unusedSimpArgs false
attribute [local go_sem] Oper.semAt_some

/-- A piece that ends in one way. -/
theorem wp_pin {P : Program} {c : Code} {Q : Exit → Act → World → Prop} {a : Act} {w : World} {a0 : Act} {w0 : World} (h : c.wp P (fun e a' w' => e = .normal ∧ a' = a0 ∧ w' = w0) a w) (H : Q .normal a0 w0) : c.wp P Q a w :=
  Code.wp_mono (fun e a' w' ⟨h1, h2, h3⟩ => by rw [h1, h2, h3]; exact H) h
theorem notes_len (b : Bytes) (N : List Nat) (at_ k : Nat) : (notes b N at_ k).length ≤ N.length + k := by
  induction k with
  | zero => exact Nat.le_refl _
  | succ k ih =>
    unfold notes noteL
    split
    · simp only [List.length_append, List.length_cons, List.length_nil]; omega
    · omega
theorem notes_step (b : Bytes) (N : List Nat) (at_ j : Nat) : notes b N at_ (min (j + 1) 64) = if j < 64 then noteL b (notes b N at_ (min j 64)) (at_ + j) else notes b N at_ (min j 64) := by
  split
  · rw [Nat.min_eq_left (by omega), Nat.min_eq_left (by omega)]; rfl
  · rw [Nat.min_eq_right (by omega), Nat.min_eq_right (by omega)]
theorem wp_loop_GI {c0 : Code} {Q : Exit → Act → World → Prop} {a : Act} {w wr0 : World} {A : Option Addr} {n c : Nat} {b : Bytes} (h0 : GI w A n c b a wr0)
    (h : ∀ a wr, GI w A n c b a wr → c0.wp Try.prog (Exit.then (fun a' w' => GI w A n c b a' w' ∧ b.length - atOf w' (w.heap.size + 4) < b.length - atOf wr (w.heap.size + 4)) Q) a wr) : (Code.loop c0).wp Try.prog Q a wr0 :=
  wp_loop (GI w A n c b) (fun _ wr => b.length - atOf wr (w.heap.size + 4)) h0 h
theorem OwB.cells {B : Nat} {w : World} {v : Value} {L : Bytes} (h : OwB B w v L) {g : Nat} (hg : v.ownBlock = some g) : ∃ cur, w.heap[g]? = some (.cells cur 5 (0, 0)) := by
  rcases h.2 with ⟨rfl, _⟩ | ⟨g', cap, cur, rfl, _, hgg, _⟩
  · cases hg
  · cases hg
    exact ⟨cur, hgg⟩
/-- The end: the deferred blocks are taken. -/
theorem greedy_end {w wr wf : World} {pb pm pa M : Nat} {A : Option Addr} {n c : Nat} {b : Bytes} {at_ : Nat} {N : List Nat} {Ao : Option Addr} {no co : Nat} {out : Bytes} {Bs : Nat → Prop} {Ds : List Nat} (h : GInv w wr pb pm pa M A n c b at_ N Ao no co out Bs Ds)
    {A' : Option Addr} {n' c' : Nat} {L : Bytes} (hf : FrB w wf (.slice A' n' c') L) (hb : Below wr.heap.size wr wf) {T : Array Value} (hT : T.getD 2 undef = .slice A' n' c') {R : Ending → World → Prop} (hR : ∀ w', FrB w w' (.slice A' n' c') L → R (.returned (.slice A' n' c')) w') :
    bodyPostM Fence.wide 9 Try.prog Try.f76 R .ret { tmps := T, defers := dfs Ds } wf := by
  have hd : ∀ D ∈ Ds, wf.heap[D]? = some (.deferred (some [])) := fun D hD => by
    obtain ⟨d1, d2, _⟩ := h.defs D hD
    exact (hb.block D (Array.getElem?_eq_some_iff.1 d2).1).trans d2
  refine leaves_dfs (.slice A' n' c') Ds wf hd h.nd (fun w' => by rw [← hT]; exact results_tmp rfl T _ _) fun w' ho => hR w' (Off.frB hf ho (fun g hg hm => ?_) fun g hg => (h.defs g hg).1)
  obtain ⟨cur, hc⟩ := hf.own.cells hg
  rw [hd g hm] at hc
  cases hc

set_option maxRecDepth 100000 in
set_option maxHeartbeats 8000000 in
theorem greedy_any (w : World) (A : Option Addr) (n c : Nat) (b : Bytes) (hb : SBy w A n b) (hc : n ≤ c) (hn : n ≤ 2 ^ 20) :
    Calls Try.prog 76 #[.slice A n c] w fun e w' => ∃ A' n' c', e = .returned (.slice A' n' c') ∧ FrB w w' (.slice A' n' c') (greedyB b) := by
  have hl := hb.1
  have HB := Lib.hid hb
  refine (callsIn_wide (n := 9)).1 ?_
  refine callsIn_of_wp_marks Try.func76 rfl trivial ?_ rfl
  simp only [Try.ntmps76, List.size_toArray, List.length_cons, List.length_nil, Nat.reduceAdd, Nat.reduceSub, Array.replicate_succ, Array.replicate_zero, List.push_toArray, List.append_toArray, List.nil_append, List.cons_append]
  refine wpIn_wide.2 ?_
  have hmm := @run_makeMap Try.prog
  go_upto_block 0 with (fail)
  clear hmm
  refine wp_forget (fun W => GSt w W A n c b 0 0 [] (some ⟨w.heap.size + 1, 0, none⟩) 1 1 [1] (fun _ => False) []) ?start ?_
  case start =>
    have e1 : w.heap.size + 1 + 1 = w.heap.size + 2 := by omega
    rw [e1]
    obtain ⟨w1, hw1⟩ : ∃ w1, w1 = w.alloc (.cells #[.slice A n c] 28) := ⟨_, rfl⟩
    obtain ⟨w2, hw2⟩ : ∃ w2, w2 = w1.alloc (.cells #[.int .u8 1] 5) := ⟨_, rfl⟩
    obtain ⟨w3, hw3⟩ : ∃ w3, w3 = w2.alloc (.map #[] 0) := ⟨_, rfl⟩
    obtain ⟨w4, hw4⟩ : ∃ w4, w4 = w3.alloc (.cells #[.map (some (w.heap.size + 2))] 139) := ⟨_, rfl⟩
    obtain ⟨w5, hw5⟩ : ∃ w5, w5 = w4.alloc (.cells #[.int .i64 0] 3) := ⟨_, rfl⟩
    have s1 : w1.heap.size = w.heap.size + 1 := by rw [hw1]; simp
    have s2 : w2.heap.size = w.heap.size + 2 := by rw [hw2]; simp [s1]
    have s3 : w3.heap.size = w.heap.size + 3 := by rw [hw3]; simp [s2]
    have s4 : w4.heap.size = w.heap.size + 4 := by rw [hw4]; simp [s3]
    have b1 : Below w.heap.size w w1 := by rw [hw1]; exact (Below.refl _ _).alloc (Nat.le_refl _) _
    have b2 : Below w1.heap.size w1 w2 := by rw [hw2]; exact (Below.refl _ _).alloc (Nat.le_refl _) _
    have b3 : Below w2.heap.size w2 w3 := by rw [hw3]; exact (Below.refl _ _).alloc (Nat.le_refl _) _
    have b4 : Below w3.heap.size w3 w4 := by rw [hw4]; exact (Below.refl _ _).alloc (Nat.le_refl _) _
    have b5 : Below w4.heap.size w4 w5 := by rw [hw5]; exact (Below.refl _ _).alloc (Nat.le_refl _) _
    have b35 : Below w3.heap.size w3 w5 := below_upto b4 b5 (Nat.le_refl _)
    have b25 : Below w2.heap.size w2 w5 := below_upto b3 b35 (Nat.le_refl _)
    have b15 : Below w1.heap.size w1 w5 := below_upto b2 b25 (Nat.le_refl _)
    have c1 : w1.cell? ⟨w.heap.size, 0, none⟩ = some (.slice A n c) := by rw [hw1]; exact (alloc_at w _ _).1
    have c4 : w4.cell? ⟨w3.heap.size, 0, none⟩ = some (.map (some (w.heap.size + 2))) := by rw [hw4]; exact (alloc_at w3 _ _).1
    have c5 : w5.cell? ⟨w4.heap.size, 0, none⟩ = some (.int .i64 (0 : Nat)) ∧ w5.frozen? ⟨w4.heap.size, 0, none⟩ = false := by rw [hw5]; exact alloc_at w4 _ _
    have hs3 : SeenAt w.heap.size w3 (w.heap.size + 2) b [] (fun _ => False) := by
      have := SeenAt.start w.heap.size w2 b
      rw [← hw3, s2] at this
      exact this
    have f2 : FrB w w2 (.slice (some ⟨w.heap.size + 1, 0, none⟩) 1 1) [1] := by
      have := (FrB.one w1 (x := 1) (by omega)).elder b1
      rw [s1] at this
      have h2 : w1.alloc (.cells #[.int .u8 ((1 : Nat) : Int)] 5) = w2 := by rw [hw2]; rfl
      rw [h2] at this
      exact this
    have hg : GInv w w5 w.heap.size (w.heap.size + 3) (w.heap.size + 4) (w.heap.size + 2) A n c b 0 [] (some ⟨w.heap.size + 1, 0, none⟩) 1 1 [1] (fun _ => False) [] := by
      refine GInv.start HB.out ((b15.cell (p := ⟨w.heap.size, 0, none⟩) (by show w.heap.size < _; omega)).trans c1) ?_ ?_ ?_ (hs3.off (S := fun _ => False) (Off.of_below b35) id (fun _ _ => id)) (f2.up b25) (fun g hg => ?_) ⟨by omega, by omega, by omega, by omega⟩
      · rw [← s3]
        exact (b5.cell (p := ⟨w3.heap.size, 0, none⟩) (by show w3.heap.size < _; omega)).trans c4
      · rw [← s4]; exact c5.1
      · rw [← s4]; exact c5.2
      · unfold ownOf Value.ownBlock at hg
        simp only [Option.some.injEq] at hg
        exact ⟨by omega, by omega, by omega, by omega⟩
    subst hw5 hw4 hw3 hw2 hw1
    exact ⟨hg, Nat.le_refl _, Nat.zero_le _, fun x hx => by simp at hx, Nat.le_refl _, by simp, rfl⟩
  intro wg hg
  have HG := Lib.hid hg
  clear hg
  go_wp2
  refine wp_loop_GI (w := w) (A := A) (n := n) (c := c) (b := b) ?_ ?_
  · exact ⟨0, 0, [], _, _, _, _, _, [], _, _, _, _, _, _, _, _, _, _, _, _, _, _, _, _, _, _, _, _, _, _, _, _, _, _, _, _, _, _, _, _, _, _, _, _, _, _, _, _, _, _, _, _, _, _, _, _, _, _, _, _, _, _, _, _, _, _, _, _, _, _, _, _, _, _, _, _, _, _, HG.out, rfl⟩
  refine GI.round ?_
  intro wr at_ from_ N Ao no co out Bs Ds
  intro u8 u9 u10 u11 u12 u13 u14 u18 u19 u20 u21 u22 u23 u24 u25 u26 u27 u28 u29 u30 u31 u32 u33 u34 u35 u36 u37 u38 u39 u40 u41 u42 u43 u44 u45 u46 u47 u48 u49 u50 u51 u52 u53 u54 u55 u56 u57 u58 u59 u60 u61 u62 u63 u64 u65 u66 u67 u68 u69 u70 u71 u72 u73 u74 u75 u76 u77 u78 u79 u80 hg
  dsimp only
  have hlt : at_ ≤ 2 ^ 20 := by have := hg.tl; omega
  have HG := Lib.hid hg
  have cb := hg.g.cb
  have ca := hg.g.ca
  have cm := hg.g.cm
  clear hg
  obtain ⟨E, hE⟩ : ∃ E, E = at_ + 4 := ⟨_, rfl⟩
  have g1 : (at_ : Int) + 4 = (E : Int) := by omega
  by_cases hin : E ≤ n
  case neg =>
    have k1 : ¬ (E : Int) ≤ (n : Int) := by omega
    have hft : (from_ : Int) ≤ (n : Int) := by have := HG.out.ft; have := HG.out.tl; omega
    have HE := Lib.hid hE
    clear hE
    have HD : Hid (greedyB b = litB out (b.drop from_)) := by
      rw [HG.out.eq, greedyGo_end (by have := HE.out; omega)]; exact rfl
    have HL : Hid (∀ A' m c', SBy wr A' m (b.drop from_) → Calls Try.prog 99 #[.slice Ao no co, .slice A' m c'] wr fun e w' => ∃ A' n' c', e = .returned (.slice A' n' c') ∧ FrB w w' (.slice A' n' c') (litB out (b.drop from_)) ∧ Below wr.heap.size wr w') :=
      fun A' m c' h => literal_any w wr Ao no co out A' m c' (b.drop from_) HG.out.g.fr h (by have h1 := HG.out.g.fr.len; have := HG.out.ol; have := HG.out.ft; have := HG.out.tl; omega) (by have := h.len; rw [List.length_drop] at this; omega)
    have HX : Hid (SBy wr A n b) := HG.out.g.sby
    by_cases hcf : from_ = c
    · have hbd : b.drop from_ = [] := List.drop_eq_nil_of_le (by omega)
      have HL2 := Lib.hid (HL.out A 0 0 (by rw [hbd]; exact SBy.nil _ _))
      have hfn : n = from_ := by have := HG.out.ft; have := HG.out.tl; omega
      clear HL hbd
      go_wp2_with fail
      refine HL2.out.mono ?_
      rintro _ wf ⟨A', n', c', rfl, hf, hbf⟩
      have HF := Lib.hid hf
      have HBF := Lib.hid hbf
      clear hf hbf HL2
      go_wp2
      refine greedy_end HG.out.g HF.out HBF.out rfl fun w' h => ⟨_, _, _, rfl, ?_⟩
      rw [HD.out]
      exact h
    · by_cases hn0 : n = 0
      · obtain rfl : from_ = 0 := by have := HG.out.ft; have := HG.out.tl; omega
        have HL2 := Lib.hid (fun A' m => HL.out A' 0 m (by rw [List.length_eq_zero_iff.1 (hl.trans hn0)]; exact SBy.nil _ _))
        clear HL
        go_wp2_with fail
        refine (HL2.out _ _).mono ?_
        rintro _ wf ⟨A', n', c', rfl, hf, hbf⟩
        have HF := Lib.hid hf
        have HBF := Lib.hid hbf
        clear hf hbf HL2
        go_wp2
        refine greedy_end HG.out.g HF.out HBF.out rfl fun w' h => ⟨_, _, _, rfl, ?_⟩
        rw [HD.out]
        exact h
      · obtain ⟨g, o, e, _, _⟩ := HX.out.2 (by omega)
        subst e
        have HL2 := Lib.hid (HL.out (some ⟨g, o + from_, none⟩) (n - from_) (c - from_) (by
          have := HX.out.part from_ n (by omega) (Nat.le_refl _)
          rwa [List.take_of_length_le (by rw [List.length_drop]; omega)] at this))
        have hcf2 : c - from_ ≠ 0 := by omega
        clear HL
        go_wp2_with fail
        refine HL2.out.mono ?_
        rintro _ wf ⟨A', n', c', rfl, hf, hbf⟩
        have HF := Lib.hid hf
        have HBF := Lib.hid hbf
        clear hf hbf HL2
        go_wp2
        refine greedy_end HG.out.g HF.out HBF.out rfl fun w' h => ⟨_, _, _, rfl, ?_⟩
        rw [HD.out]
        exact h
  have k1 : (E : Int) ≤ (n : Int) := by omega
  have hE4 : at_ + 4 ≤ b.length := by omega
  have HE := Lib.hid hE4
  clear hE hE4
  obtain ⟨v, hv, ho, hvb⟩ := HG.out.g.seen.row (keyB b at_) (keyB_lt b at_)
  obtain ⟨Av, cv, rfl, hvc, hvcells⟩ := ho.form
  have HV := Lib.hid hv
  have HO := Lib.hid ho
  have HVB := Lib.hid hvb
  have HVC := Lib.hid hvcells
  clear hv ho hvb hvcells
  go_upto_region 7 with (fail)
  obtain ⟨s1, hs1⟩ : ∃ s1, s1 = wr.heap.size := ⟨_, rfl⟩
  refine wp_forget (fun W => Below wr.heap.size wr W ∧ W.heap.size = s1 + 2 ∧ W.cell? ⟨s1, 0, none⟩ = some (.int .i64 0) ∧ W.frozen? ⟨s1, 0, none⟩ = false ∧ W.cell? ⟨s1 + 1, 0, none⟩ = some (.int .i64 0) ∧ W.frozen? ⟨s1 + 1, 0, none⟩ = false) ?f1 ?_
  case f1 =>
    subst hs1
    have b1 := heap_alloc2_old wr (.cells #[.int .i64 0] 3) (.cells #[.int .i64 0] 3)
    have b2 := heap_alloc2_new wr (.cells #[.int .i64 0] 3) (.cells #[.int .i64 0] 3)
    refine ⟨((Below.refl _ _).alloc (Nat.le_refl _) _).alloc (by simp) _, by simp, by rw [cell_of_row _ _ _ _ _ _ b1]; rfl, frozen_of_row _ _ _ _ _ b1, by rw [cell_of_row _ _ _ _ _ _ b2]; rfl, frozen_of_row _ _ _ _ _ b2⟩
  rw [← hs1]
  rintro W1 ⟨hW1, hsz1, c8, z8, c9, z9⟩
  have lts := HG.out.g.lts
  have q1 := (bcells hW1).1
  have cb1 : W1.cell? ⟨w.heap.size, 0, none⟩ = some (.slice A n c) := (q1 _ _ (by have := lts.1; omega)).trans cb
  have cm1 : W1.cell? ⟨w.heap.size + 3, 0, none⟩ = some (.map (some (w.heap.size + 2))) := (q1 _ _ (by have := lts.2.1; omega)).trans cm
  have ca1 : W1.cell? ⟨w.heap.size + 4, 0, none⟩ = some (.int .i64 (at_ : Nat)) := (q1 _ _ (by have := lts.2.2.1; omega)).trans ca
  have HKEY : Hid (∀ W', Below W1.heap.size W1 W' → Calls Try.prog 95 #[.slice A n c, .int .i64 (at_ : Nat)] W' fun e w' => e = .returned (.int .u32 (keyB b at_ : Nat)) ∧ w' = W') := fun W' hW' =>
    key_any W' A n c b at_ ((HG.out.g.sby.up (hs1 ▸ hW1)).up hW') hc (by have := HE.out; omega) (by omega)
  have BA : Below W1.heap.size W1 W1.drew := (Below.refl _ _).drew
  have BB : Below W1.heap.size W1 (W1.alloc (.cells #[.slice none 0 0] 141)).drew := ((Below.refl _ _).alloc (Nat.le_refl _) _).drew
  have hoff : ∀ W', Below W1.heap.size W1 W' → Off (fun _ => False) wr W' := fun W' hW' => (Off.of_below (S := fun _ => False) (by rw [← hs1]; exact hW1)).trans (Off.of_below hW')
  have HLA := Lib.hid (HV.out _ (hoff _ BA))
  have HLB := Lib.hid (HV.out _ (hoff _ BB))
  have HBA := Lib.hid BA
  have HBB := Lib.hid BB
  have HW1 := Lib.hid hW1
  have l0 : w.heap.size < s1 + 2 := by have := lts.1; omega
  have l3 : w.heap.size + 3 < s1 + 2 := by have := lts.2.1; omega
  have l4 : w.heap.size + 4 < s1 + 2 := by have := lts.2.2.1; omega
  have HS1 := Lib.hid hs1
  clear q1 cb cm ca hW1 lts BA BB hoff hs1
  have hla := HLA.out
  have hlb := HLB.out
  apply wp_pin (a0 := { tmps := #[.slice A n c, .pointer (some ⟨w.heap.size, 0, none⟩), .slice none 0 0, .slice Ao no co, .pointer (some ⟨w.heap.size + 3, 0, none⟩), .int .i64 (from_ : Nat), .pointer (some ⟨w.heap.size + 4, 0, none⟩), .func (.func 94) #[] #[.pointer (some ⟨w.heap.size, 0, none⟩), .pointer (some ⟨w.heap.size + 3, 0, none⟩)], .pointer (some ⟨s1, 0, none⟩), .pointer (some ⟨s1 + 1, 0, none⟩), .pointer (some ⟨s1 + 2, 0, none⟩), u11, u12, u13, u14, .slice (some ⟨w.heap.size + 1, 0, none⟩) 1 1, .map (some (w.heap.size + 2)), .func (.func 94) #[] #[.pointer (some ⟨w.heap.size, 0, none⟩), .pointer (some ⟨w.heap.size + 3, 0, none⟩)], .int .i64 (at_ : Nat), .int .i64 (E : Nat), .slice A n c, .int .i64 (n : Nat), .bool true, .map (some (w.heap.size + 2)), .slice A n c, .int .i64 (at_ : Nat), .int .u32 (keyB b at_ : Nat), .slice Av (seenL b N (keyB b at_)).length cv, u28, u29, u30, u31, u32, u33, u34, u35, u36, u37, u38, u39, u40, u41, u42, u43, u44, u45, u46, u47, u48, u49, u50, u51, u52, u53, u54, u55, u56, u57, u58, u59, u60, u61, u62, u63, u64, u65, u66, u67, u68, u69, u70, u71, u72, u73, u74, u75, u76, u77, u78, u79, u80, undef, undef, undef, undef, undef], defers := dfs Ds }) (w0 := (W1.alloc (.cells #[.slice Av (seenL b N (keyB b at_)).length cv] 141)).drew)
  case h =>
    go_region_law ((go_simp; go_at_call 95; refine (HKEY.out _ (by first | exact HBA.out | exact HBB.out)).mono ?_; rintro _ _ ⟨rfl, rfl⟩))
    all_goals exact ⟨rfl, rfl, rfl⟩
  dsimp only
  clear hla hlb HLA HLB HKEY HBA HBB HV cb1 cm1 ca1
  have hz : ∀ i ∈ seenL b N (keyB b at_), i ≤ at_ := fun i hi => Nat.le_of_lt (HG.out.nl i (List.mem_filter.1 hi).1)
  have hzn : (seenL b N (keyB b at_)).length ≤ 1048576 := Nat.le_trans (seenL_len b N _) (by have := HG.out.nn; omega)
  have HBO : Hid (∀ pre : List Nat, pre = (seenL b N (keyB b at_)).reverse.take 24 → bestGo b at_ pre (0, 0) = bestOf b N at_) := fun pre h => by rw [h]; exact rfl
  generalize hzs : seenL b N (keyB b at_) = zs at *
  have c10 := (alloc_at W1.drew (.slice Av zs.length cv) 141).1
  have hW2 : Below wr.heap.size wr (W1.alloc (.cells #[.slice Av zs.length cv] 141)).drew := by rw [← HS1.out]; exact (HW1.out.alloc (by omega) _).drew
  have hsz2 : (W1.alloc (.cells #[.slice Av zs.length cv] 141)).drew.heap.size = s1 + 3 := by simp [hsz1]
  go_upto_region 8 with (fail)
  refine wp_forget (fun W => Below wr.heap.size wr W ∧ W.heap.size = s1 + 3 ∧ W.cell? ⟨s1, 0, none⟩ = some (.int .i64 0) ∧ W.frozen? ⟨s1, 0, none⟩ = false ∧ W.cell? ⟨s1 + 1, 0, none⟩ = some (.int .i64 0) ∧ W.frozen? ⟨s1 + 1, 0, none⟩ = false ∧ W.cell? ⟨s1 + 2, 0, none⟩ = some (.slice Av zs.length cv)) ?f2 ?_
  case f2 =>
    have hB : Below W1.heap.size W1 (W1.alloc (.cells #[.slice Av zs.length cv] 141)).drew := ((Below.refl _ _).alloc (Nat.le_refl _) _).drew
    have q1 := (bcells hB).1
    have q2 := (bcells hB).2
    refine ⟨hW2, hsz2, (q1 _ _ (by omega)).trans c8, (q2 _ _ (by omega)).trans z8, (q1 _ _ (by omega)).trans c9, (q2 _ _ (by omega)).trans z9, ?_⟩
    rw [← hsz1]
    exact c10
  clear hW2 hsz2 c8 z8 c9 z9 c10 hsz1 HW1 l0 l3 l4
  rintro W2 ⟨hW2, hsz2, c8, z8, c9, z9, c10⟩
  have HW2 := Lib.hid hW2
  clear hW2
  go_wp2_with (go_at_call 96; refine (backward_any _ _ _ _).mono ?_; rintro _ _ ⟨rfl, rfl⟩)
  refine wp_range_pin (fun D W => s1 + 4 ≤ D ∧ W.heap[D]? = some (.deferred (some [])) ∧ Below s1 wr W ∧ W.cell? ⟨s1, 0, none⟩ = some (.int .i64 ((bestOf b N at_).1 : Nat)) ∧ W.cell? ⟨s1 + 1, 0, none⟩ = some (.int .i64 ((bestOf b N at_).2 : Nat))) ?rng ?rest
  case rng =>
    refine (wpIn_wide (n := 9)).1 ?_
    have hB3 : Below W2.heap.size W2 (W2.alloc (.cells #[.slice Av zs.length cv] 141)) := (Below.refl _ _).alloc (Nat.le_refl _) _
    have q1 := (bcells hB3).1
    have q2 := (bcells hB3).2
    have hsz3 : (W2.alloc (.cells #[.slice Av zs.length cv] 141)).heap.size = s1 + 4 := by simp [hsz2]
    have c11 := (alloc_at W2 (.slice Av zs.length cv) 141).1
    rw [hsz2] at c11
    have h0 : RgI b at_ zs.length s1 (.slice Av zs.length cv) wr [] (W2.alloc (.cells #[.slice Av zs.length cv] 141)) :=
      ⟨(q1 _ _ (by omega)).trans c8, (q2 _ _ (by omega)).trans z8, (q1 _ _ (by omega)).trans c9, (q2 _ _ (by omega)).trans z9, (q1 _ _ (by omega)).trans c10, by
        have := HW2.out
        rw [← HS1.out] at this
        exact this.trans (hB3.mono (by omega)), fun x hx => by simp at hx⟩
    have hst := back_stops Fence.wide 8 trivial rfl (by omega) (s1 + 3) cv at_ Av zs hz hzn (fun k => k = s1 ∨ k = s1 + 1) (W2.alloc (.cells #[.slice Av zs.length cv] 141)) c11 (by omega) (fun hp => by
      obtain ⟨g, hA, hg, hgB, hcs⟩ := HVC.out hp
      rw [← HS1.out] at hg
      have hb3 : Below s1 wr (W2.alloc (.cells #[.slice Av zs.length cv] 141)) := h0.bel
      exact ⟨g, hA, by omega, fun j hj => (hb3.cell (p := ⟨g, 0 + j, none⟩) hg).trans (hcs j hj)⟩)
    generalize (W2.alloc (.cells #[.slice Av zs.length cv] 141)) = W3 at *
    refine wpIn_rangeFunc_ownG rfl (by omega) (gf := 108) (lb := #[.pointer (some ⟨s1 + 3, 0, none⟩)]) rfl trivial (enters_of Try.func108 (by kernel_rfl) rfl)
      hst (fun h k => h.trans k) (fun W l o o' hl ho hoc _ => KeepC.putObj _ W l o o' ho hoc) (Below.refl _ _) (fun _ => rfl)
      (RgI b at_ zs.length s1 (.slice Av zs.length cv) wr) (RgX b at_ zs.length s1 (.slice Av zs.length cv) wr) (RgI.own _ (by omega)) (RgX.own _ (by omega)) h0 (fun x => { tmps := #[.slice A n c, .pointer (some ⟨w.heap.size, 0, none⟩), .slice none 0 0, .slice Ao no co, .pointer (some ⟨w.heap.size + 3, 0, none⟩), .int .i64 (from_ : Nat), .pointer (some ⟨w.heap.size + 4, 0, none⟩), .func (.func 94) #[] #[.pointer (some ⟨w.heap.size, 0, none⟩), .pointer (some ⟨w.heap.size + 3, 0, none⟩)], .pointer (some ⟨s1, 0, none⟩), .pointer (some ⟨s1 + 1, 0, none⟩), .pointer (some ⟨s1 + 2, 0, none⟩), .int .i64 (x.1.1 : Nat), .int .i64 (x.1.2 : Nat), u13, u14, .slice (some ⟨w.heap.size + 1, 0, none⟩) 1 1, .map (some (w.heap.size + 2)), .func (.func 94) #[] #[.pointer (some ⟨w.heap.size, 0, none⟩), .pointer (some ⟨w.heap.size + 3, 0, none⟩)], .int .i64 (at_ : Nat), .int .i64 (E : Nat), .slice A n c, .int .i64 (n : Nat), .bool true, .map (some (w.heap.size + 2)), .slice A n c, .int .i64 (at_ : Nat), .int .u32 (keyB b at_ : Nat), .slice Av zs.length cv, .slice Av zs.length cv, .func (.func 108) #[] #[.pointer (some ⟨s1 + 3, 0, none⟩)], .int .i64 (x.1.1 : Nat), .int .i64 (x.1.2 : Nat), u32, u33, u34, u35, u36, u37, u38, u39, u40, u41, u42, u43, u44, u45, u46, u47, u48, u49, u50, u51, u52, u53, u54, u55, u56, u57, u58, u59, u60, u61, u62, u63, u64, u65, u66, u67, u68, u69, u70, u71, u72, u73, u74, u75, u76, u77, u78, u79, u80, undef, undef, undef, undef, undef], defers := [] }) ?assign ?body ?done ?stop
    case assign =>
      intro l x W K hK
      unfold bkEnc
      gi_wp2
      exact hK
    case done =>
      intro D xs W hD hxs hI hdf
      subst hxs
      refine ⟨.inl rfl, D, rfl, by omega, hdf, hI.bel, ?_, ?_⟩
      · rw [hI.c8, HBO.out _ hI.done]
      · rw [hI.c9, HBO.out _ hI.done]
    case stop =>
      rintro D c pre W hD ⟨k, hk, rfl⟩ hX hdf
      obtain ⟨rfl, pre, hpre, hI⟩ := hX.stop hk
      gi_wp2
      refine ⟨by omega, hI.bel, ?_, ?_⟩
      · rw [hI.c8, HBO.out _ hpre]
      · rw [hI.c9, HBO.out _ hpre]
    case body =>
      intro l pre x W hI hlen
      have lts := HG.out.g.lts
      rw [← HS1.out] at lts
      have cbW : W.cell? ⟨w.heap.size, 0, none⟩ = some (.slice A n c) := (hI.bel.cell (p := ⟨w.heap.size, 0, none⟩) lts.1).trans HG.out.g.cb
      have caW : W.cell? ⟨w.heap.size + 4, 0, none⟩ = some (.int .i64 (at_ : Nat)) := (hI.bel.cell (p := ⟨w.heap.size + 4, 0, none⟩) lts.2.2.1).trans HG.out.g.ca
      have c10W := hI.c10
      obtain ⟨d, hd⟩ : ∃ d, d = zs.length - x.1.1 := ⟨_, rfl⟩
      have hxi := x.2.1
      have hxp := x.2.2
      have g2 : (zs.length : Int) - (x.1.1 : Nat) = (d : Int) := by omega
      have HST := Lib.hid (fun (hx : zs.length - x.1.1 ≤ 24) W1 hb => hI.step (W1 := W1) x hx hb)
      have HI := Lib.hid hI
      have HSAME : Hid (CallsIn Fence.wide (9 - 1 - 1 - 1) Try.prog 97 #[.slice A n c, .int .i64 (x.1.2 : Nat), .int .i64 (at_ : Nat)] W fun e w' => e = .returned (.int .i64 (sameB b x.1.2 at_ : Nat)) ∧ Below W.heap.size W w') :=
        callsIn_wide.2 (same_any W A n c b x.1.2 at_ (HG.out.g.sby.up (by rw [← HS1.out]; exact hI.bel)) hxp (by have := HE.out; omega) (by omega))
      have h9 : 1 ≤ 9 - 1 - 1 := by omega
      clear lts hst h0
      by_cases hd24 : d ≤ 24
      · have k2 : ¬ (d : Int) > 24 := by omega
        have HS2 := Lib.hid (HST.out (by omega))
        clear hd HST hI
        gi_wp2_with (refine ⟨trivial, ?_⟩; gi_at_call 97; refine (CallsIn.inRound l HSAME.out).mono ?_; rintro _ W1 ⟨rfl, hW1⟩; have c8W1 := (hW1.cell (p := ⟨s1, 0, none⟩) (lt_of_cell HI.out.c8)).trans HI.out.c8; have z8W1 := (hW1.frozen (p := ⟨s1, 0, none⟩) (lt_of_cell HI.out.c8)).trans HI.out.z8; have z9W1 := (hW1.frozen (p := ⟨s1 + 1, 0, none⟩) (lt_of_cell HI.out.c9)).trans HI.out.z9; have c9W1 := (hW1.cell (p := ⟨s1 + 1, 0, none⟩) (lt_of_cell HI.out.c9)).trans HI.out.c9)
        · have OFF : Off (fun k => k = s1 ∨ k = s1 + 1) W ((W1.setCell ⟨s1, 0, none⟩ (.int .i64 (sameB b x.1.2 at_ : Nat))).setCell ⟨s1 + 1, 0, none⟩ (.int .i64 (x.1.2 : Nat))) :=
            ((Off.of_below hW1).setCell (p := ⟨s1, 0, none⟩) (.inl rfl) _).setCell (p := ⟨s1 + 1, 0, none⟩) (.inr rfl) _
          exact ⟨KeepsFrom.of_off OFF (by omega), OFF.keepC, (HS2.out W1 hW1).2 (by first | assumption | omega)⟩
        · have OFF : Off (fun k => k = s1 ∨ k = s1 + 1) W W1 := Off.of_below hW1
          exact ⟨KeepsFrom.of_off OFF (by omega), OFF.keepC, (HS2.out W1 hW1).1 (by first | assumption | omega)⟩
      · have k2 : (d : Int) > 24 := by omega
        clear HST HSAME
        have HD24 : Hid (24 < zs.length - x.1.1) := by rw [← hd]; exact (by omega : 24 < d)
        clear hd hI
        gi_wp2
        exact ⟨KeepsFrom.refl _ _, rfl, pre, x, rfl, HD24.out, HI.out⟩
  rintro D W4 ⟨hD, hdf, hW4, c8, c9⟩
  have HG4 : Hid (GInv w W4 w.heap.size (w.heap.size + 3) (w.heap.size + 4) (w.heap.size + 2) A n c b at_ N Ao no co out Bs (D :: Ds)) := by
    have hW := hW4
    rw [HS1.out] at hW
    exact HG.out.g.addD hW (by have := HS1.out; omega) hdf
  dsimp only
  change Exit.then _ _ Exit.normal { tmps := _, defers := dfs (D :: Ds) } W4
  have z8' : W4.frozen? ⟨s1, 0, none⟩ = W4.frozen? ⟨s1, 0, none⟩ := rfl
  obtain ⟨best, hbest⟩ : ∃ x, x = (bestOf b N at_).1 := ⟨_, rfl⟩
  obtain ⟨place, hplace⟩ : ∃ x, x = (bestOf b N at_).2 := ⟨_, rfl⟩
  rw [← hbest] at c8
  rw [← hplace] at c9
  have HBST := Lib.hid hbest
  have HPLC := Lib.hid hplace
  have HWD := Lib.hid hW4
  clear hbest hplace hW4 z8' hdf hz HVC HBO HO HVB HW2 hsz2 z8 z9 c10 hzn hzs
  have cb4 := HG4.out.cb
  have ca4 := HG4.out.ca
  have lts := HG4.out.lts
  by_cases hb6 : best < 6
  · have k2 : (best : Int) < 6 := by omega
    have HNT := Lib.hid (note_any (i := at_) HG4.out.seen HG4.out.sby hc hn HG4.out.cb HG4.out.cm hlt (by have := HG.out.nn; omega) HG4.out.fr.size (fun h => (HG4.out.dis _ h).1 rfl) (fun h => (HG4.out.dis _ h).2.1 rfl))
    clear lts
    go_wp2_with fail
    refine HNT.out.mono ?_
    rintro _ W5 ⟨rfl, Bs', h5, ho5, hB5⟩
    have HG5 := Lib.hid (HG4.out.note h5 ho5 hB5)
    have ca5 := HG5.out.ca
    have za5 := HG5.out.za
    have HA5 : Hid (GInv w (W5.setCell ⟨w.heap.size + 4, 0, none⟩ (.int .i64 ((at_ : Int) + 1))) w.heap.size (w.heap.size + 3) (w.heap.size + 4) (w.heap.size + 2) A n c b (at_ + 1) (noteL b N at_) Ao no co out Bs' (D :: Ds)) := by
      have h := HG5.out.setAt (at_ + 1)
      rw [show (((at_ + 1 : Nat)) : Int) = (at_ : Int) + 1 by omega] at h
      exact h
    clear h5 ho5 hB5 HNT
    go_wp2
    refine ⟨⟨at_ + 1, from_, noteL b N at_, Ao, no, co, out, Bs', D :: Ds, _, _, _, _, _, _, _, _, _, _, _, _, _, _, _, _, _, _, _, _, _, _, _, _, _, _, _, _, _, _, _, _, _, _, _, _, _, _, _, _, _, _, _, _, _, _, _, _, _, _, _, _, _, _, _, _, _, _, _, _, _, _, _, _, _, _, _, _, _, _, ⟨HA5.out, ?_, ?_, ?_, ?_, HG.out.ol, ?_⟩, rfl⟩, ?_⟩
    · have := HG.out.ft; omega
    · have := HE.out; omega
    · exact noteL_lt HG.out.nl
    · have := HG.out.nn
      unfold noteL
      split
      · simp only [List.length_append, List.length_cons, List.length_nil]; omega
      · omega
    · rw [HG.out.eq, greedyGo_note HE.out (by rw [← HBST.out]; exact hb6)]
    · rw [atOf_eq HA5.out.ca, atOf_eq HG.out.g.ca]
      have := HE.out
      omega
  · have k2 : ¬ (best : Int) < 6 := by omega
    obtain ⟨g, o, hAe, _, _⟩ := HG4.out.sby.2 (by omega)
    subst hAe
    have hbs := bestOf_spec b N at_ (by have := HBST.out; omega)
    have hbl := bestOf_le b N at_ (by have := HE.out; omega)
    have hpl := HG.out.nl _ hbs.1
    rw [← HPLC.out] at hpl
    rw [← HBST.out] at hbl
    obtain ⟨dd, hdd⟩ : ∃ dd, dd = at_ - place := ⟨_, rfl⟩
    have i1 : IntKind.i64.wrap ((at_ : Int) - (place : Int)) = (dd : Int) := by rw [IntWalk.i64_in _ (by omega)]; omega
    have hft := HG.out.ft
    have i2 : (from_ : Int) ≤ (at_ : Int) := by omega
    have i3 : (at_ : Int) ≤ (c : Int) := by omega
    have i4 : (0 : Int) ≤ (from_ : Int) := by omega
    have i5 : (at_ : Int) ≤ (n : Int) := by omega
    have P1 : Hid (SBy W4.drew (some ⟨g, o + from_, none⟩) (at_ - from_) ((b.drop from_).take (at_ - from_))) := (HG4.out.sby.part from_ at_ hft (by omega)).drew
    have P0 : Hid (at_ = from_ → SBy W4.drew (some ⟨g, o, none⟩) 0 ((b.drop from_).take (at_ - from_))) := fun h => by rw [h, Nat.sub_self, List.take_zero]; exact SBy.nil _ _
    have hno : no ≤ 2 ^ 30 := by have h1 := HG.out.g.fr.len; have := HG.out.ol; omega
    have HLT : Hid (∀ A' m c', SBy W4.drew A' m ((b.drop from_).take (at_ - from_)) → Calls Try.prog 99 #[.slice Ao no co, .slice A' m c'] W4.drew fun e w' => ∃ A' n' c', e = .returned (.slice A' n' c') ∧ FrB w w' (.slice A' n' c') (litB out ((b.drop from_).take (at_ - from_))) ∧ Below W4.drew.heap.size W4.drew w') :=
      fun A' m c' h => literal_any w W4.drew Ao no co out A' m c' _ HG4.out.fr.drew h hno (by have := h.len; rw [List.length_take] at this; omega)
    have hln := litB_le out ((b.drop from_).take (at_ - from_)) (by rw [List.length_take]; omega)
    have hln2 : (litB out ((b.drop from_).take (at_ - from_))).length ≤ 2 ^ 32 := by
      have h1 := HG.out.g.fr.len
      rw [List.length_take] at hln
      omega
    have HQ : Hid (∀ W', Below W4.drew.heap.size W4.drew W' → W'.cell? ⟨w.heap.size, 0, none⟩ = some (.slice (some ⟨g, o, none⟩) n c) ∧ W'.cell? ⟨w.heap.size + 4, 0, none⟩ = some (.int .i64 (at_ : Nat)) ∧ W'.cell? ⟨s1, 0, none⟩ = some (.int .i64 (best : Nat)) ∧ W'.cell? ⟨s1 + 1, 0, none⟩ = some (.int .i64 (place : Nat))) := fun W' hb =>
      ⟨(hb.cell (p := ⟨w.heap.size, 0, none⟩) lts.1).trans cb4, (hb.cell (p := ⟨w.heap.size + 4, 0, none⟩) lts.2.2.1).trans ca4, (hb.cell (p := ⟨s1, 0, none⟩) (lt_of_cell c8)).trans c8, (hb.cell (p := ⟨s1 + 1, 0, none⟩) (lt_of_cell c9)).trans c9⟩
    have HDD := Lib.hid hdd
    clear hdd lts hbs hln
    obtain ⟨outN, hoN⟩ : ∃ outN, outN = copB (litB out ((b.drop from_).take (at_ - from_))) best dd := ⟨_, rfl⟩
    have HEQ : Hid (greedyB b = greedyGo b (at_ + best) (at_ + best) (notes b N at_ (min best 64)) outN ∧ outN.length ≤ 1 + 5 * (at_ + best)) := by
      refine ⟨?_, ?_⟩
      · rw [HG.out.eq, greedyGo_copy HE.out (by rw [← HBST.out]; exact hb6), ← HBST.out, ← HPLC.out, hoN, HDD.out]
      · rw [hoN]
        exact greedy_len HG.out.ol hft hbl (by omega) (by omega) (by have := HDD.out; omega)
    have HON := Lib.hid hoN
    clear hoN
    go_upto_region 18 with (fail)
    by_cases haf : at_ = from_
    case pos =>
      have hs := P0.out haf
      have HL1 := Lib.hid (HLT.out _ _ 0 hs)
      subst haf
      clear hs
      go_region_held3 (fun w' => w'.cell? ⟨w.heap.size, 0, none⟩ = some (.slice (some ⟨g, o, none⟩) n c) ∧ w'.cell? ⟨w.heap.size + 4, 0, none⟩ = some (.int .i64 (at_ : Nat)) ∧ w'.cell? ⟨s1, 0, none⟩ = some (.int .i64 (best : Nat)) ∧ w'.cell? ⟨s1 + 1, 0, none⟩ = some (.int .i64 (place : Nat)))
        (first | exact HQ5.out | exact HQ6.out | go_keep)
        ((first | (go_at_call 99; refine HL1.out.mono ?_; rintro _ W5 ⟨A1, n1, c1, rfl, h1, hb1⟩; have HQ5 := Lib.hid (HQ.out W5 hb1); have H1 := Lib.hid h1; have HB1 := Lib.hid hb1) | (go_at_call 98; refine (copied_any W5 A1 n1 c1 _ best dd H1.out.sby (by have := H1.out.len; omega) (by omega) (by have := HDD.out; omega)).mono ?_; rintro _ W6 ⟨A2, n2, c2, rfl, h2⟩; have HQ6 := Lib.hid (HQ.out W6 (HB1.out.trans (h2.bel.mono HB1.out.size))); have H2 : Hid (FrB W5 W6 (.slice A2 n2 c2) outN) := by rw [HON.out]; exact h2)))
      have HH6 : Hid (GInv w W6 w.heap.size (w.heap.size + 3) (w.heap.size + 4) (w.heap.size + 2) (some ⟨g, o, none⟩) n c b at_ N A2 n2 c2 outN Bs (D :: Ds)) := (HG4.out.up ((Below.refl _ _).drew)).setOut (w1 := W5) HB1.out H2.out
      have HS6 : Hid (W6.cell? ⟨s1, 0, none⟩ = some (.int .i64 (best : Nat)) ∧ ∀ g, Bs g → g ≠ s1) := by
        refine ⟨HQ6.out.2.2.1, fun g hg e => ?_⟩
        have h1 := HG.out.g.lts.2.2.2.2.1 g hg
        have := HS1.out
        omega
      clear HQ5 HQ6 HB1 H1 H2 HQ HL1 HLT P1 P0
      go_upto_region 19 with (fail)
      refine wp_forget (fun W => GInv w W w.heap.size (w.heap.size + 3) (w.heap.size + 4) (w.heap.size + 2) (some ⟨g, o, none⟩) n c b at_ N A2 n2 c2 outN Bs (D :: Ds) ∧ W.cell? ⟨s1, 0, none⟩ = some (.int .i64 (best : Nat)) ∧ ∀ g, Bs g → g ≠ s1) ⟨HH6.out, HS6.out⟩ ?_
      clear HH6 HS6 c8 c9 cb4 ca4 HG4
      rintro W7 ⟨h7, c87, hbs7⟩
      have H7 := Lib.hid h7
      have HBS7 := Lib.hid hbs7
      clear h7 hbs7
      go_wp2
      go_loopw [66] (fun k wq => ∃ (j : Nat) (Bs' : Nat → Prop), j ≤ best ∧ k = .int .i64 j ∧ GInv w wq w.heap.size (w.heap.size + 3) (w.heap.size + 4) (w.heap.size + 2) (some ⟨g, o, none⟩) n c b at_ (notes b N at_ (min j 64)) A2 n2 c2 outN Bs' (D :: Ds) ∧ wq.cell? ⟨s1, 0, none⟩ = some (.int .i64 (best : Nat)) ∧ ∀ g, Bs' g → g ≠ s1) (fun k _ => best - (intOf k).toNat)
      case atStart => exact ⟨0, Bs, Nat.zero_le _, rfl, H7.out, c87, HBS7.out⟩
      case round =>
        obtain ⟨j, Bs', hj, rfl, h8, c88, hbs8⟩ := hrel
        have H8 := Lib.hid h8
        have HBS8 := Lib.hid hbs8
        have ca8 := h8.ca
        have za8 := h8.za
        clear h8 hbs8 H7 HBS7 c87
        by_cases hjb : j < best
        · by_cases hj64 : j < 64
          · have hnl := notes_len b N at_ (min j 64)
            have hnt := note_any (i := at_ + j) H8.out.seen H8.out.sby hc hn H8.out.cb H8.out.cm (by omega) (by have := HG.out.nn; omega) H8.out.fr.size (fun h => (H8.out.dis _ h).1 rfl) (fun h => (H8.out.dis _ h).2.1 rfl)
            rw [Int.natCast_add] at hnt
            have HNT := Lib.hid hnt
            have HNS : Hid (notes b N at_ (min (j + 1) 64) = noteL b (notes b N at_ (min j 64)) (at_ + j)) := by rw [notes_step, if_pos hj64]; exact rfl
            have hM : w.heap.size + 2 ≠ s1 := by have := HG.out.g.lts.2.2.2.1; have := HS1.out; omega
            have HC8 := Lib.hid c88
            have hl8 := lt_of_cell c88
            clear hnt hnl c88 ca8 za8
            have ca8 := H8.out.ca
            go_wp2_with fail
            refine HNT.out.mono ?_
            rintro _ W9 ⟨rfl, Bs9, h9, ho9, hB9⟩
            have H9 := Lib.hid (H8.out.note h9 ho9 hB9)
            have HC9 : Hid (W9.cell? ⟨s1, 0, none⟩ = some (.int .i64 (best : Nat))) := (ho9.cell (p := ⟨s1, 0, none⟩) hl8 (fun e => e.elim (fun e => hM e.symm) (fun e => HBS8.out _ e rfl))).trans HC8.out
            have HB9 : Hid (∀ g, Bs9 g → g ≠ s1) := fun g hg e => (hB9 g hg).elim (fun h => HBS8.out _ h e) (fun h => by omega)
            clear h9 ho9 hB9 HNT
            go_wp2
            go_roundw
            case rel => exact ⟨j + 1, Bs9, by omega, by go_num, by rw [HNS.out]; exact H9.out, HC9.out, HB9.out⟩
            case measure => simp [intOf]; omega
          · have HNS : Hid (notes b N at_ (min (j + 1) 64) = notes b N at_ (min j 64)) := by rw [notes_step, if_neg hj64]; exact rfl
            have HC8 := Lib.hid c88
            clear c88 ca8 za8
            have k64 : ¬ (j : Int) < 64 := by omega
            go_wp2
            go_roundw
            case rel => exact ⟨j + 1, Bs', by omega, by go_num, by rw [HNS.out]; exact H8.out, HC8.out, HBS8.out⟩
            case measure => simp [intOf]; omega
        · obtain rfl : j = best := by omega
          have HA8 : Hid (GInv w (wr.setCell ⟨w.heap.size + 4, 0, none⟩ (.int .i64 ((at_ : Int) + (j : Int)))) w.heap.size (w.heap.size + 3) (w.heap.size + 4) (w.heap.size + 2) (some ⟨g, o, none⟩) n c b (at_ + j) (notes b N at_ (min j 64)) A2 n2 c2 outN Bs' (D :: Ds)) := by
            have h := H8.out.setAt (at_ + j)
            rw [Int.natCast_add] at h
            exact h
          go_wp2
          refine ⟨⟨at_ + j, at_ + j, notes b N at_ (min j 64), A2, n2, c2, outN, Bs', D :: Ds, _, _, _, _, _, _, _, _, _, _, _, _, _, _, _, _, _, _, _, _, _, _, _, _, _, _, _, _, _, _, _, _, _, _, _, _, _, _, _, _, _, _, _, _, _, _, _, _, _, _, _, _, _, _, _, _, _, _, _, _, _, _, _, _, _, _, _, _, _, _, ⟨HA8.out, Nat.le_refl _, by omega, ?_, ?_, HEQ.out.2, HEQ.out.1⟩, rfl⟩, ?_⟩
          · intro x hx
            have := notes_lt HG.out.nl (min j 64) x hx
            omega
          · have h1 := notes_len b N at_ (min j 64)
            have h2 := HG.out.nn
            omega
          · rw [atOf_eq HA8.out.ca, atOf_eq HG.out.g.ca]
            have := HE.out
            omega
    case neg =>
      have hs := P1.out
      have HL1 := Lib.hid (HLT.out _ _ (at_ - from_) hs)
      have haf2 : at_ - from_ ≠ 0 := by omega
      clear hs
      go_region_held3 (fun w' => w'.cell? ⟨w.heap.size, 0, none⟩ = some (.slice (some ⟨g, o, none⟩) n c) ∧ w'.cell? ⟨w.heap.size + 4, 0, none⟩ = some (.int .i64 (at_ : Nat)) ∧ w'.cell? ⟨s1, 0, none⟩ = some (.int .i64 (best : Nat)) ∧ w'.cell? ⟨s1 + 1, 0, none⟩ = some (.int .i64 (place : Nat)))
        (first | exact HQ5.out | exact HQ6.out | go_keep)
        ((first | (go_at_call 99; refine HL1.out.mono ?_; rintro _ W5 ⟨A1, n1, c1, rfl, h1, hb1⟩; have HQ5 := Lib.hid (HQ.out W5 hb1); have H1 := Lib.hid h1; have HB1 := Lib.hid hb1) | (go_at_call 98; refine (copied_any W5 A1 n1 c1 _ best dd H1.out.sby (by have := H1.out.len; omega) (by omega) (by have := HDD.out; omega)).mono ?_; rintro _ W6 ⟨A2, n2, c2, rfl, h2⟩; have HQ6 := Lib.hid (HQ.out W6 (HB1.out.trans (h2.bel.mono HB1.out.size))); have H2 : Hid (FrB W5 W6 (.slice A2 n2 c2) outN) := by rw [HON.out]; exact h2)))
      have HH6 : Hid (GInv w W6 w.heap.size (w.heap.size + 3) (w.heap.size + 4) (w.heap.size + 2) (some ⟨g, o, none⟩) n c b at_ N A2 n2 c2 outN Bs (D :: Ds)) := (HG4.out.up ((Below.refl _ _).drew)).setOut (w1 := W5) HB1.out H2.out
      have HS6 : Hid (W6.cell? ⟨s1, 0, none⟩ = some (.int .i64 (best : Nat)) ∧ ∀ g, Bs g → g ≠ s1) := by
        refine ⟨HQ6.out.2.2.1, fun g hg e => ?_⟩
        have h1 := HG.out.g.lts.2.2.2.2.1 g hg
        have := HS1.out
        omega
      clear HQ5 HQ6 HB1 H1 H2 HQ HL1 HLT P1 P0
      go_upto_region 19 with (fail)
      refine wp_forget (fun W => GInv w W w.heap.size (w.heap.size + 3) (w.heap.size + 4) (w.heap.size + 2) (some ⟨g, o, none⟩) n c b at_ N A2 n2 c2 outN Bs (D :: Ds) ∧ W.cell? ⟨s1, 0, none⟩ = some (.int .i64 (best : Nat)) ∧ ∀ g, Bs g → g ≠ s1) ⟨HH6.out, HS6.out⟩ ?_
      clear HH6 HS6 c8 c9 cb4 ca4 HG4
      rintro W7 ⟨h7, c87, hbs7⟩
      have H7 := Lib.hid h7
      have HBS7 := Lib.hid hbs7
      clear h7 hbs7
      go_wp2
      go_loopw [66] (fun k wq => ∃ (j : Nat) (Bs' : Nat → Prop), j ≤ best ∧ k = .int .i64 j ∧ GInv w wq w.heap.size (w.heap.size + 3) (w.heap.size + 4) (w.heap.size + 2) (some ⟨g, o, none⟩) n c b at_ (notes b N at_ (min j 64)) A2 n2 c2 outN Bs' (D :: Ds) ∧ wq.cell? ⟨s1, 0, none⟩ = some (.int .i64 (best : Nat)) ∧ ∀ g, Bs' g → g ≠ s1) (fun k _ => best - (intOf k).toNat)
      case atStart => exact ⟨0, Bs, Nat.zero_le _, rfl, H7.out, c87, HBS7.out⟩
      case round =>
        obtain ⟨j, Bs', hj, rfl, h8, c88, hbs8⟩ := hrel
        have H8 := Lib.hid h8
        have HBS8 := Lib.hid hbs8
        have ca8 := h8.ca
        have za8 := h8.za
        clear h8 hbs8 H7 HBS7 c87
        by_cases hjb : j < best
        · by_cases hj64 : j < 64
          · have hnl := notes_len b N at_ (min j 64)
            have hnt := note_any (i := at_ + j) H8.out.seen H8.out.sby hc hn H8.out.cb H8.out.cm (by omega) (by have := HG.out.nn; omega) H8.out.fr.size (fun h => (H8.out.dis _ h).1 rfl) (fun h => (H8.out.dis _ h).2.1 rfl)
            rw [Int.natCast_add] at hnt
            have HNT := Lib.hid hnt
            have HNS : Hid (notes b N at_ (min (j + 1) 64) = noteL b (notes b N at_ (min j 64)) (at_ + j)) := by rw [notes_step, if_pos hj64]; exact rfl
            have hM : w.heap.size + 2 ≠ s1 := by have := HG.out.g.lts.2.2.2.1; have := HS1.out; omega
            have HC8 := Lib.hid c88
            have hl8 := lt_of_cell c88
            clear hnt hnl c88 ca8 za8
            have ca8 := H8.out.ca
            go_wp2_with fail
            refine HNT.out.mono ?_
            rintro _ W9 ⟨rfl, Bs9, h9, ho9, hB9⟩
            have H9 := Lib.hid (H8.out.note h9 ho9 hB9)
            have HC9 : Hid (W9.cell? ⟨s1, 0, none⟩ = some (.int .i64 (best : Nat))) := (ho9.cell (p := ⟨s1, 0, none⟩) hl8 (fun e => e.elim (fun e => hM e.symm) (fun e => HBS8.out _ e rfl))).trans HC8.out
            have HB9 : Hid (∀ g, Bs9 g → g ≠ s1) := fun g hg e => (hB9 g hg).elim (fun h => HBS8.out _ h e) (fun h => by omega)
            clear h9 ho9 hB9 HNT
            go_wp2
            go_roundw
            case rel => exact ⟨j + 1, Bs9, by omega, by go_num, by rw [HNS.out]; exact H9.out, HC9.out, HB9.out⟩
            case measure => simp [intOf]; omega
          · have HNS : Hid (notes b N at_ (min (j + 1) 64) = notes b N at_ (min j 64)) := by rw [notes_step, if_neg hj64]; exact rfl
            have HC8 := Lib.hid c88
            clear c88 ca8 za8
            have k64 : ¬ (j : Int) < 64 := by omega
            go_wp2
            go_roundw
            case rel => exact ⟨j + 1, Bs', by omega, by go_num, by rw [HNS.out]; exact H8.out, HC8.out, HBS8.out⟩
            case measure => simp [intOf]; omega
        · obtain rfl : j = best := by omega
          have HA8 : Hid (GInv w (wr.setCell ⟨w.heap.size + 4, 0, none⟩ (.int .i64 ((at_ : Int) + (j : Int)))) w.heap.size (w.heap.size + 3) (w.heap.size + 4) (w.heap.size + 2) (some ⟨g, o, none⟩) n c b (at_ + j) (notes b N at_ (min j 64)) A2 n2 c2 outN Bs' (D :: Ds)) := by
            have h := H8.out.setAt (at_ + j)
            rw [Int.natCast_add] at h
            exact h
          go_wp2
          refine ⟨⟨at_ + j, at_ + j, notes b N at_ (min j 64), A2, n2, c2, outN, Bs', D :: Ds, _, _, _, _, _, _, _, _, _, _, _, _, _, _, _, _, _, _, _, _, _, _, _, _, _, _, _, _, _, _, _, _, _, _, _, _, _, _, _, _, _, _, _, _, _, _, _, _, _, _, _, _, _, _, _, _, _, _, _, _, _, _, _, _, _, _, _, _, _, _, ⟨HA8.out, Nat.le_refl _, by omega, ?_, ?_, HEQ.out.2, HEQ.out.1⟩, rfl⟩, ?_⟩
          · intro x hx
            have := notes_lt HG.out.nl (min j 64) x hx
            omega
          · have h1 := notes_len b N at_ (min j 64)
            have h2 := HG.out.nn
            omega
          · rw [atOf_eq HA8.out.ca, atOf_eq HG.out.g.ca]
            have := HE.out
            omega
end Go.Proofs.Ytlmgihnnphmmhaa
