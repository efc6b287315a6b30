/- radix: Pairs. -/
import Derived.Test.YtgkdggidgaifhaaOj
import Derived.Test.YtgkdggidgaifhaaRq
namespace Go.Proofs.Ytgkdggidgaifhaa
open Go.RowKit
set_option linter.unusedVariables false
set_option linter.unusedSimpArgs false

/-- What the function that goes over pairs is. -/
structure Pcb {α : Type} (f : α → Nat → Bytes → α × Bool) where
  gf : FuncId
  lb : Array Value
  ent : ∀ (args : Array Value) (w : World), (callFunc gf args).run Try.prog w = .ok (.enter gf args) w
  Iv : World → (Nat → Prop) → α → Prop
  Rdy : α → Nat → Prop
  mono : ∀ a n m, Rdy a n → m ≤ n → Rdy a m
  step : ∀ a k v n, Rdy a (n + 1) → (f a k v).2 = true → Rdy (f a k v).1 n
  off : ∀ {S O : Nat → Prop} {w w' : World} {a : α}, Iv w O a → Off S w w' → (∀ k, S k → ¬ O k) → Iv w' O a
  lt : ∀ {O : Nat → Prop} {w : World} {a : α} {k : Nat}, Iv w O a → O k → k < w.heap.size
  call : ∀ {w : World} {O : Nat → Prop} {a : α} {key : Nat} {v : Value} {L : Bytes}, Iv w O a → Rdy a 1 → key < 16777216 → SlB w v L → L.length ≤ 256 → VIn (fun b => ¬ O b) v →
    Calls Try.prog gf (#[.int .i64 (key : Nat), v] ++ lb) w (VsPost Iv w O (f a key L))
section
variable {α : Type} {f : α → Nat → Bytes → α × Bool} (C : Pcb f)
theorem pairsL_rdy (x : RN) : ∀ (m i : Nat) (a : α) (n : Nat), C.Rdy a (n + m) → (pairsL f x m i a).2 = true → C.Rdy (pairsL f x m i a).1 n
  | 0, i, a, n, h, _ => h
  | m + 1, i, a, n, h, h2 => by
    unfold pairsL at h2 ⊢
    split
    · rename_i e
      rw [if_pos e] at h2
      split
      · rename_i e2
        rw [if_pos e2] at h2
        exact pairsL_rdy x m _ _ n (C.step _ _ _ _ h e2) h2
      · rename_i e2; rw [if_neg e2] at h2; cases h2
    · rename_i e
      rw [if_neg e] at h2
      exact pairsL_rdy x m _ _ n (C.mono _ _ _ h (by omega)) h2
theorem pairsC_rdy (a : α) (r : Int × Int) (x : RN) (n : Nat) (h : C.Rdy a (16 * (n + 1))) (h2 : (pairsC f a r x).2 = true) : C.Rdy (pairsC f a r x).1 (16 * n) := by
  unfold pairsC at h2 ⊢
  split
  · rename_i e
    rw [if_pos e] at h2
    exact C.step _ _ _ _ (C.mono _ _ _ h (by omega)) h2
  · rename_i e
    rw [if_neg e] at h2
    exact pairsL_rdy C x 16 0 a _ (C.mono _ _ _ h (by omega)) h2
/-- Within Pairs' function. -/
structure PrAt (w wr : World) (B : Nat) (Ov Ov' : Nat → Prop) (a : α) (X : Nat) (x : RN) (vv : Nat → Value) (vl : Value) : Prop where
  iv : C.Iv wr Ov' a
  box : wr.cell? ⟨B, 0, none⟩ = some (.func (.func C.gf) #[] C.lb)
  nB : ¬ Ov' B
  off : Off Ov w wr
  hO : ∀ k, Ov' k → Ov k ∨ w.heap.size ≤ k
  nd : NdAt wr X x vv vl
  oX : ¬ Ov' X
  vp : ValsP (fun b => ¬ Ov' b) vv vl
variable {C}
theorem PrAt.up {w wr w2 : World} {B : Nat} {Ov Ov' : Nat → Prop} {a : α} {X : Nat} {x : RN} {vv : Nat → Value} {vl : Value} (h : PrAt C w wr B Ov Ov' a X x vv vl) (hb : Below wr.heap.size wr w2) : PrAt C w w2 B Ov Ov' a X x vv vl :=
  ⟨C.off h.iv (Off.of_below (S := fun _ => False) hb) (fun _ => False.elim), (hb.cell (p := ⟨B, 0, none⟩) (lt_of_cell h.box)).trans h.box, h.nB, h.off.step hb, h.hO, h.nd.up hb, h.oX, h.vp⟩
theorem PrAt.next {w wr w2 : World} {B : Nat} {Ov Ov' : Nat → Prop} {a : α} {X : Nat} {x : RN} {vv : Nat → Value} {vl : Value} (h : PrAt C w wr B Ov Ov' a X x vv vl) {O2 : Nat → Prop} {a2 : α} (hi : C.Iv w2 O2 a2) (ho : Off Ov' wr w2) (hO : ∀ k, O2 k → Ov' k ∨ wr.heap.size ≤ k) : PrAt C w w2 B Ov O2 a2 X x vv vl := by
  have hlB := lt_of_cell h.box
  have key : ∀ b, ¬ Ov' b → b < wr.heap.size → ¬ O2 b := fun b hb hl e => by
    rcases hO b e with e | e
    · exact hb e
    · omega
  exact ⟨hi, (ho.cell (p := ⟨B, 0, none⟩) hlB h.nB).trans h.box, key _ h.nB hlB, h.off.late ho (fun i hl hi => (h.hO i hi).elim id (fun e => by omega)), fun k e => by
    rcases hO k e with e | e
    · exact h.hO k e
    · exact .inr (Nat.le_trans h.off.size e), h.nd.offP ho h.oX h.vp, key _ h.oX h.nd.lt, ⟨fun i hi b o n c e h0 => key b (h.vp.1 i hi b o n c e h0) (h.nd.inl.1 i hi b o n c e h0), fun b o n c e h0 => key b (h.vp.2 b o n c e h0) (h.nd.inl.2 b o n c e h0)⟩⟩
set_option maxRecDepth 100000 in
set_option maxHeartbeats 8000000 in
theorem pairs1_any {w : World} {B : Nat} {Ov : Nat → Prop} {a : α} {X : Nat} {x : RN} {vv : Nat → Value} {vl : Value} (r : Int × Int) (h : PrAt C w w B Ov Ov a X x vv vl) (hr : C.Rdy a 16) (hok : x.Ok) :
    Calls Try.prog 60 #[addrV r, .pointer (some ⟨X, 0, none⟩), .pointer (some ⟨B, 0, none⟩)] w fun e w' => ∃ O2, e = .returned (.bool (pairsC f a r x).2) ∧ PrAt C w w' B Ov O2 (pairsC f a r x).1 X x vv vl := by
  obtain ⟨ra, rb⟩ := r
  have H := Lib.hid h
  have HR := Lib.hid hr
  have HK := Lib.hid hok
  have hl6 := hok.lv
  have eC := C.ent
  have lX := h.nd.lt
  have lB := lt_of_cell h.box
  have hpc : pairsC f a (ra, rb) x = pairsC f a (ra, rb) x := rfl
  conv at hpc => rhs; unfold pairsC
  have HPC := Lib.hid hpc
  clear h hr hok hpc
  unfold addrV
  go_enter Try.func60, Try.ntmps60
  go_upto_region 1 with (fail)
  refine wp_forget (fun W => PrAt C w W B Ov Ov a X x vv vl) (H.out.up ((Below.refl _ _).alloc (Nat.le_refl _) _)) ?_
  rintro W0 h0
  have H0 := Lib.hid h0
  have q0 := h0.nd.level
  have q1 := h0.nd.key
  have q2 := h0.nd.val
  have c0 := h0.box
  have lX0 := h0.nd.lt
  have lB0 := lt_of_cell c0
  clear h0
  by_cases h6 : x.level = 6
  · have hpc := HPC.out
    rw [if_pos h6] at hpc
    have HPC2 := Lib.hid hpc
    have i6 : ((x.level : Int) == 6) = true := by simp; omega
    have HCL := Lib.hid (fun W (hb : Below W0.heap.size W0 W) => C.call (key := x.key) (L := x.val) (v := vl) (H0.out.up hb).iv (C.mono _ _ _ HR.out (by omega)) (HK.out.ky h6) (H0.out.up hb).nd.v HK.out.v (H0.out.up hb).vp.2)
    clear hpc HPC h6
    go_upto_region 2 with (fail)
    refine wp_region_up_tail 9 (by kernel_rfl) (by kernel_rfl) (by kernel_rfl) ?_
    simp only [List.take_succ_cons, List.take_zero, List.drop_succ_cons, List.drop_zero]
    repeat (go_big_quiet_step (fail))
    refine wpQuiet_nil ?_
    rintro _ ⟨g9, rfl⟩
    go_wp2_with fail
    refine (HCL.out g9.world g9.h).mono ?_
    rintro e W9 ⟨Ov9, rfl, hiv, hof, hO9⟩
    have HN := Lib.hid ((H0.out.up g9.h).next hiv hof hO9)
    clear hiv hof hO9 HCL
    go_wp2
    go_ret
    rw [HPC2.out]
    exact ⟨Ov9, rfl, HN.out⟩
  · have hpc := HPC.out
    rw [if_neg h6] at hpc
    have HPC2 := Lib.hid hpc
    have i6 : ((x.level : Int) == 6) = false := by simp; omega
    have hl5 : x.level ≤ 5 := by omega
    have HHAS := Lib.hid H0.out.nd.hasAt
    have HLEN : Hid ((Try.prog.info? 93).map (·.size) = some (hasL x.has).length) := Lib.hid (by rw [hasL_length]; exact agg_info)
    clear hpc HPC h6 q1 q2
    go_upto_region 3 with (fail)
    go_wp2_with (refine wpList_load_mid rfl 93 (.tmp 25) rfl X 50 rfl (hasL x.has) _ HHAS.out Try.underlying93 rfl HLEN.out ?_)
    go_loopw [27] (fun i wr => ∃ (j : Nat) (a9 : α) (O9 : Nat → Prop), j ≤ 16 ∧ i = .int .i64 (j : Nat) ∧ PrAt C w wr B Ov O9 a9 X x vv vl ∧ C.Rdy a9 (16 - j) ∧ pairsC f a (ra, rb) x = pairsL f x (16 - j) j a9) (fun i _ => 16 - (intOf i).toNat)
    case atStart => exact ⟨0, _, Ov, by omega, rfl, H0.out, HR.out, HPC2.out⟩
    case round =>
      obtain ⟨j, a9, O9, hj, rfl, hpr, hrd, hst⟩ := hrel
      have HP := Lib.hid hpr
      have q0 := hpr.nd.level
      have q1 := hpr.nd.prefix_
      have c0 := hpr.box
      have lX9 := hpr.nd.lt
      have HRD := Lib.hid hrd
      have HST3 := Lib.hid hst
      clear hst hpr hrd HPC2 H0 HHAS HLEN lX0 lB0
      have lB9 := lt_of_cell c0
      by_cases hj16 : j < 16
      · have hi := run_hasIdx wr x.has hj16
        obtain ⟨m, hm⟩ : ∃ m, 16 - j = m + 1 := ⟨15 - j, by omega⟩
        have hst := HST3.out
        rw [hm] at hst
        unfold pairsL at hst
        have em : m = 16 - (j + 1) := by omega
        cases hf : x.has j
        · rw [hf] at hi
          rw [if_neg (by simp [hf]), em] at hst
          have HST4 := Lib.hid hst
          clear hst HST3 hf em hm
          go_upto_region 6 with (fail)
          refine wp_region_up (by kernel_rfl) (by kernel_rfl) ?_
          repeat (go_big_quiet_step (fail))
          refine wpQuiet_nil ?_
          rintro _ ⟨g9, rfl⟩
          go_wp2
          go_roundw
          case rel => exact ⟨j + 1, _, O9, by omega, by go_num, HP.out.up g9.h, C.mono _ _ _ HRD.out (by omega), HST4.out⟩
          case measure => simp [intOf]; omega
        · rw [hf] at hi
          by_cases h5 : x.level = 5
          · have hP : x.prefix_ < 16777216 := ok_prefix HK.out (by omega)
            have i5 : ((x.level : Int) == 5) = true := by simp; omega
            have hor := or_low hP hj16
            have hpq : x.prefix_ * 16 + j < 16777216 := by
              have h1 := HK.out.pr (by omega)
              have h2 : (16 : Nat) ^ x.level ≤ 16 ^ 5 := Nat.pow_le_pow_right (by omega) (by omega)
              omega
            rw [if_pos ⟨hf, h5⟩] at hst
            obtain ⟨q', hq'⟩ : ∃ q', q' = x.prefix_ * 16 + j := ⟨_, rfl⟩
            rw [← hq'] at hor hst hpq
            have HCL := Lib.hid (fun W (hb : Below wr.heap.size wr W) => C.call (key := q') (L := x.vals j) (v := vv j) (HP.out.up hb).iv (C.mono _ _ _ HRD.out (by omega)) hpq ((HP.out.up hb).nd.vs j hj16) (HK.out.vs j hj16) ((HP.out.up hb).vp.1 j hj16))
            have hvs := HP.out.nd.row (34 + j) (by omega)
            rw [show nodeC x vv vl (34 + j) = vv j by unfold nodeC; rw [if_neg (by omega), if_neg (by omega), if_neg (by omega), if_pos (by omega), show 34 + j - 34 = j by omega]] at hvs
            have HST4 := Lib.hid hst
            have hstep := C.step a9 q' (x.vals j) m (by rw [← hm]; exact HRD.out)
            clear hst HST3 hf hm hq' h5
            go_upto_region 6 with (fail)
            refine wp_region_up_tailG 23 (by kernel_rfl) (by kernel_rfl) (by kernel_rfl) ?_
            simp only [List.take_succ_cons, List.take_zero, List.drop_succ_cons, List.drop_zero]
            repeat (go_big_quiet_step (fail))
            refine wpQuiet_nil ?_
            rintro _ ⟨g9, rfl⟩
            go_wp2_with fail
            refine (HCL.out g9.world g9.h).mono ?_
            rintro e W9 ⟨Ov9, rfl, hiv, hof, hO9⟩
            have HN := Lib.hid ((HP.out.up g9.h).next hiv hof hO9)
            have hst := HST4.out
            clear hiv hof hO9 HCL HST4
            generalize f a9 q' (x.vals j) = y at *
            obtain ⟨a', more⟩ := y
            simp only at hst hstep
            cases more with
            | true =>
              rw [if_pos rfl, em] at hst
              have HST5 := Lib.hid hst
              have HRN := Lib.hid (hstep rfl)
              rw [em] at HRN
              clear hst hstep em
              go_wp2
              go_roundw
              case rel => exact ⟨j + 1, _, Ov9, by omega, by go_num, HN.out, HRN.out, HST5.out⟩
              case measure => simp [intOf]; omega
            | false =>
              rw [if_neg (by simp)] at hst
              have HST5 := Lib.hid hst
              clear hst hstep em
              go_wp2
              go_ret
              rw [HST5.out]
              exact ⟨Ov9, rfl, HN.out⟩
          · rw [if_neg (fun e => h5 e.2), em] at hst
            have HST4 := Lib.hid hst
            have i5 : ((x.level : Int) == 5) = false := by simp; omega
            clear hst HST3 hf em hm h5
            go_upto_region 6 with (fail)
            refine wp_region_up (by kernel_rfl) (by kernel_rfl) ?_
            repeat (go_big_quiet_step (fail))
            refine wpQuiet_nil ?_
            rintro _ ⟨g9, rfl⟩
            go_wp2
            go_roundw
            case rel => exact ⟨j + 1, _, O9, by omega, by go_num, HP.out.up g9.h, C.mono _ _ _ HRD.out (by omega), HST4.out⟩
            case measure => simp [intOf]; omega
      · obtain rfl : j = 16 := by omega
        have hst := HST3.out
        simp only [Nat.sub_self, pairsL] at hst
        have HST4 := Lib.hid hst
        clear hst HST3
        go_wp2
        go_ret
        rw [HST4.out]
        exact ⟨O9, rfl, HP.out⟩
end
end Go.Proofs.Ytgkdggidgaifhaa
