/- radix: a node as bytes. -/
import Derived.Test.YtgkdggidgaifhaaNf
import Derived.Deep.RegionLaw
namespace Go.Proofs.Ytgkdggidgaifhaa
open Go.RowKit
set_option linter.unusedVariables false
set_option linter.unusedSimpArgs false

def maskN (f : Nat → Bool) : Nat → Nat
  | 0 => 0
  | n + 1 => maskN f n + if f n then 2 ^ n else 0
theorem maskN_lt (f : Nat → Bool) (n : Nat) : maskN f n < 2 ^ n := by
  induction n with
  | zero => simp [maskN]
  | succ n ih => simp only [maskN, Nat.pow_succ]; split <;> omega
def entB (x : RN) (i : Nat) : Bytes := if x.has i then (if x.level = 5 then varB (x.vals i).length ++ x.vals i else varB (x.kids i).1.toNat ++ varB (x.kids i).2.toNat) else []
def entsB (x : RN) : Nat → Bytes
  | 0 => []
  | n + 1 => entsB x n ++ entB x n
def nodeB (x : RN) : Bytes := if x.level = 6 then b8 6 :: (varB x.key ++ x.val) else b8 x.level :: (varB x.prefix_ ++ leB (maskN x.has 16) 2 ++ entsB x 16)
theorem entB_le {x : RN} (h : x.Ok) {i : Nat} (hi : i < 16) : (entB x i).length ≤ 276 := by
  have h1 := h.kd i hi
  have h2 := h.vs i hi
  unfold entB
  split
  · split
    · rw [List.length_append]
      have := varB_10 (v := (x.vals i).length) (by omega)
      omega
    · rw [List.length_append]
      have := varB_10 (v := (x.kids i).1.toNat) (by omega)
      have := varB_10 (v := (x.kids i).2.toNat) (by omega)
      omega
  · simp
theorem entsB_le {x : RN} (h : x.Ok) {n : Nat} (hn : n ≤ 16) : (entsB x n).length ≤ n * 276 := by
  induction n with
  | zero => simp [entsB]
  | succ n ih =>
    have := entB_le h (i := n) (by omega)
    have := ih (by omega)
    simp only [entsB, List.length_append]
    omega
theorem ok_prefix {x : RN} (h : x.Ok) : x.level ≤ 5 → x.prefix_ < 16777216 := fun h5 => by
  have h1 := h.pr h5
  have h2 := pow16_le h5
  have e : (16 : Nat) ^ 5 = 1048576 := by decide
  omega
theorem nodeB_le {x : RN} (h : x.Ok) : (nodeB x).length ≤ 5000 := by
  have h1 := h.v
  have h0 := h.lv
  unfold nodeB
  split
  · rename_i h6
    have := h.ky h6
    have := varB_10 (v := x.key) (by omega)
    simp only [List.length_cons, List.length_append]
    omega
  · have := ok_prefix h (by omega)
    have := varB_10 (v := x.prefix_) (by omega)
    have := entsB_le h (n := 16) (Nat.le_refl _)
    simp only [List.length_cons, List.length_append, leB_length]
    omega
theorem FrB.app {w0 w : World} {v : Value} {L M : Bytes} {A : Option Addr} {m c : Nat} (hf : FrB w0 w v L) (hS : SBy w A m M) (hlen : L.length + m ≤ 140737488355328) (ty : TypeId) :
    ∃ A' c' w', (Builtin.append_ #[38, 38] ty #[v, .slice A m c]).run Try.prog w = .ok (.slice A' (L ++ M).length c') w' ∧ FrB w0 w' (.slice A' (L ++ M).length c') (L ++ M) ∧ Off (fun k => v.ownBlock = some k) w w' := by
  obtain ⟨v', w', hr, h1, hg, h3⟩ := run_app (c := c) hf.own hS hf.bel.size hlen ty
  obtain ⟨A', c', rfl, _⟩ := h1.form
  exact ⟨A', c', w', hr, ⟨h1, hf.own.below hf.bel hg hf.bel.size⟩, grown_off hg⟩
set_option maxRecDepth 100000 in
theorem step_appF {ops : Array Oper} {o : Oper} {a : Act} {w : World} {K : Act → World → Prop} {Q : Exit → Act → World → Prop} {E : Prop} (hg : o.guard = none) (s x : Operand)
    (hop : o.op = Op.call { callee := Callee.builtin Builtin.append, args := #[s, x], argTypes := #[38, 38] }) (w0 : World) (v : Value) (L M : Bytes) (hs : a.eval s = v) (hf : FrB w0 w v L) (A : Option Addr) (m c : Nat) (hx : a.eval x = .slice A m c)
    (hS : SBy w A m M) (hlen : L.length + m ≤ 140737488355328) (n' : Nat) (hn' : n' = (L ++ M).length) (hK : ∀ A' c' w', FrB w0 w' (.slice A' n' c') (L ++ M) → K (a.put o.dst (.slice A' n' c')) w') :
    if Region.wanted o (yielded ops a.tmps) = true then Oper.wp Try.prog o a w K Q else E := by
  have hw : Region.wanted o (yielded ops a.tmps) = true := by simp [Region.wanted, hg]
  rw [if_pos hw]
  obtain ⟨A', c', w', hr, hf', _⟩ := hf.app hS hlen o.type
  rw [← hn'] at hr hf'
  unfold Oper.wp
  simp [execOp, hop, resolve, invoke, builtin, hs, hx, Result.andThen]
  rw [hr]
  exact hK A' c' w' hf'
theorem pow2_16 {j : Nat} (hj : j < 16) : 2 ^ j ≤ 32768 :=
  Nat.le_trans (Nat.pow_le_pow_right (by omega) (show j ≤ 15 by omega)) (by decide)
theorem mask_step (f : Nat → Bool) {j : Nat} (hj : j < 16) (h : f j = true) : bits .or .u64 (maskN f j : Nat) (2 ^ j) = (maskN f (j + 1) : Nat) := by
  have h1 := maskN_lt f j
  have h2 := pow2_16 hj
  have h5 : maskN f (j + 1) = maskN f j + 2 ^ j := by simp [maskN, h]
  have h4 := or_sum (a := maskN f j) (b := 1) (i := j) h1
  rw [h5, show (2 : Int) ^ j = ((2 ^ j : Nat) : Int) by simp]
  generalize 2 ^ j = p at *
  rw [Nat.one_mul] at h4
  rw [or64 (by omega) (by omega), h4]
def ByPost (w : World) (x : RN) (e : Ending) (w' : World) : Prop := ∃ A c, e = .returned (.slice A (nodeB x).length c) ∧ FrB w w' (.slice A (nodeB x).length c) (nodeB x)
set_option maxRecDepth 100000 in
set_option maxHeartbeats 4000000 in
theorem bytes_any {w : World} {X : Nat} {x : RN} {vv : Nat → Value} {vl : Value} (h : NdAt w X x vv vl) (ho : x.Ok) : Calls Try.prog 76 #[.pointer (some ⟨X, 0, none⟩)] w (ByPost w x) := by
  have H := Lib.hid h
  have HO := Lib.hid ho
  obtain ⟨l, hl⟩ : ∃ l, l = x.level := ⟨_, rfl⟩
  have hl6 : l ≤ 6 := by rw [hl]; exact ho.lv
  have q0 := h.level
  rw [← hl] at q0
  have hw8 : IntKind.u8.wrap (l : Int) = (l : Int) := w8_of (by omega)
  have hlt := h.lt
  have HL := Lib.hid hl
  clear h ho hl
  by_cases h6 : l = 6
  · subst h6
    have hnb : nodeB x = [b8 6] ++ varB x.key ++ x.val := by unfold nodeB; rw [if_pos HL.out.symm]; rfl
    obtain ⟨N0, hN0⟩ : ∃ N0, N0 = (nodeB x).length := ⟨_, rfl⟩
    have HN0 := Lib.hid (hN0.trans (congrArg List.length hnb))
    have HNB := Lib.hid hnb
    unfold ByPost
    rw [← hN0]
    clear hN0
    have hky := HO.out.ky HL.out.symm
    have hkw : IntKind.u64.wrap (x.key : Int) = (x.key : Int) := w64_of (by omega)
    have hvl := HO.out.v
    have HB0 := Lib.hid (SBy.one w (show 6 < 256 by omega) 5)
    clear hnb
    go_enter Try.func76, Try.ntmps76
    go_upto_region 3 with (fail)
    refine wp_forget (fun w1 => SBy w1 (some ⟨w.heap.size, 0, none⟩) 1 [b8 6] ∧ Below w.heap.size w w1) ⟨by simpa [hw8] using HB0.out, (Below.refl _ _).alloc (Nat.le_refl _) _⟩ ?_
    rintro w1 ⟨hs1, hb1⟩
    obtain ⟨Av, nv, cv, rfl, hcv, hsv⟩ := H.out.v
    have hnv := hsv.1
    have HD := Lib.hid (H.out.up hb1.drew)
    have HSV := Lib.hid (hsv.up hb1.drew)
    have HVA := Lib.hid (var_any w1.drew (some ⟨w.heap.size, 0, none⟩) 1 1 [b8 6] x.key (hs1.up (Below.refl _ _).drew) (by omega) (by omega))
    have HB1 := Lib.hid hb1
    clear hs1 hb1 hsv q0 HB0 hw8
    have y0 := HD.out.key
    have y1 := HD.out.val
    go_region_law (first | (refine step_appF (by rfl) _ _ (by rfl) w1.drew _ ([b8 6] ++ varB x.key) x.val (by rfl) HF2.out _ _ _ (by rfl) (HSV.out.up HF2.out.bel) (by have := varB_10 (v := x.key) (by omega); simp only [List.length_append, List.length_cons, List.length_nil]; omega) N0 HN0.out ?_; intro A3 c3 w3 hf3; have HF3 := Lib.hid hf3; clear hf3) | (go_simp; go_at_call 88; refine HVA.out.mono ?_; rintro e w2 ⟨A2, n2, c2, rfl, hf2⟩; have HF2 := Lib.hid hf2; have y2 := (HD.out.up hf2.bel).val; clear hf2))
    all_goals
      go_wp2
      go_ret
      rw [HNB.out]
      exact ⟨A3, c3, rfl, HF3.out.elder HB1.out.drew⟩
  · have hnb : nodeB x = [b8 l] ++ varB x.prefix_ ++ leB (maskN x.has 16) 2 ++ entsB x 16 := by unfold nodeB; rw [if_neg (by rw [← HL.out]; exact h6), HL.out]; simp
    have hl5 : l ≤ 5 := by omega
    have HNB := Lib.hid hnb
    have hpx := ok_prefix HO.out (by rw [← HL.out]; exact hl5)
    have hpw : IntKind.u64.wrap (x.prefix_ : Int) = (x.prefix_ : Int) := w64_of (by omega)
    have hl6i : ¬ (l : Int) = 6 := by omega
    have HB0 := Lib.hid (SBy.one w (show l < 256 by omega) 5)
    have hag : (Try.prog.info? 93).map (·.size) = some (hasL x.has).length := by rw [hasL_length]; exact agg_info
    have HAG := Lib.hid hag
    clear hnb hag
    go_enter Try.func76, Try.ntmps76
    go_upto_region 4 with (fail)
    refine wp_forget (fun w1 => SBy w1 (some ⟨w.heap.size, 0, none⟩) 1 [b8 l] ∧ Below w.heap.size w w1) ⟨by simpa [hw8] using HB0.out, (Below.refl _ _).alloc (Nat.le_refl _) _⟩ ?_
    rintro w1 ⟨hs1, hb1⟩
    have HD := Lib.hid (H.out.up hb1)
    have HS1 := Lib.hid hs1
    have HB1 := Lib.hid hb1
    clear hs1 hb1 HB0 hw8 q0 H
    go_wp2_with (refine wpList_load_mid rfl 93 (.tmp 34) rfl X 50 rfl (hasL x.has) _ HD.out.hasAt Try.underlying93 rfl HAG.out ?_)
    go_loop [4, 36] (fun a i => ∃ j : Nat, j ≤ 16 ∧ i = .int .i64 j ∧ a = .int .u64 (maskN x.has j : Nat)) (fun _ i => 16 - (intOf i).toNat)
    case atStart => exact ⟨0, by omega, rfl, rfl⟩
    case round =>
      obtain ⟨j, hj, rfl, rfl⟩ := hrel
      by_cases hj16 : j < 16
      · have hi := run_hasIdx w1 x.has hj16
        have hmk := maskN_lt x.has j
        clear HAG
        cases hf : x.has j
        · rw [hf] at hi
          have hms : maskN x.has (j + 1) = maskN x.has j := by simp [maskN, hf]
          have HMS := Lib.hid hms
          clear hms
          go_wp2
          go_round
          case rel => exact ⟨j + 1, by omega, by go_num, by rw [HMS.out]⟩
          case measure => simp [intOf]; omega
        · rw [hf] at hi
          have hms := mask_step x.has hj16 hf
          have h2j : IntKind.u64.wrap (2 ^ j) = 2 ^ j := by
            rw [show (2 : Int) ^ j = ((2 ^ j : Nat) : Int) by simp]
            have := pow2_16 hj16
            exact w64_of (by omega)
          have HMS := Lib.hid hms
          clear hms
          go_wp2
          go_round
          case rel => exact ⟨j + 1, by omega, by go_num, by rw [HMS.out]⟩
          case measure => simp [intOf]; omega
      · obtain rfl : j = 16 := by omega
        have hm16 := maskN_lt x.has 16
        have hm := Lib.hid hm16
        generalize hM : maskN x.has 16 = M at *
        have HMM := Lib.hid hM
        have hMb : M < 65536 := by simpa using hm16
        have hp := HD.out.prefix_
        have HVA := Lib.hid (var_any w1 (some ⟨w.heap.size, 0, none⟩) 1 1 [b8 l] x.prefix_ HS1.out (by omega) (by omega))
        clear hM hm16 hm
        go_upto_region 12 with (first | (go_at_call 88; refine HVA.out.mono ?_; rintro e w2 ⟨A2, n2, c2, rfl, hf2⟩; have hn2 := hf2.len; have HF2 := Lib.hid hf2; have HN2 := Lib.hid hn2; clear hf2 hn2) | (go_at_call 89; refine (put_any _ A2 n2 c2 ([b8 l] ++ varB x.prefix_) M 2 HF2.out.sby (by omega) (by omega) (by rw [← HN2.out]; have := varB_10 (v := x.prefix_) (by omega); simp only [List.length_append, List.length_cons, List.length_nil]; omega)).mono ?_; rintro e w3 ⟨A3, c3, rfl, hf3⟩; have HF3 := Lib.hid hf3; clear hf3))
        have hel : FrB w w3 (.slice A3 (n2 + 2) c3) (([b8 l] ++ varB x.prefix_) ++ leB M 2) := by
          have h1 := HF3.out.elder (HB1.out.trans (HF2.out.bel.mono HB1.out.size))
          exact h1
        have hnd := (HD.out.up HF2.out.bel).up HF3.out.bel
        obtain ⟨P0, hP0⟩ : ∃ P0, P0 = ([b8 l] ++ varB x.prefix_) ++ leB M 2 := ⟨_, rfl⟩
        rw [← hP0] at hel
        have hnb := HNB.out
        rw [← hP0] at hnb
        have hP0l : P0.length ≤ 20 := by
          rw [hP0]
          have := varB_10 (v := x.prefix_) (by omega)
          simp only [List.length_append, List.length_cons, List.length_nil, leB_length]
          omega
        have HEL := Lib.hid hel
        have HND := Lib.hid hnd
        have HNB2 := Lib.hid hnb
        have hag : (Try.prog.info? 93).map (·.size) = some (hasL x.has).length := HAG.out
        have HAG2 := Lib.hid hag
        clear hel hnd hnb hag HF3 HF2 HN2 HVA HS1 HB1 HNB hP0 hp HD HMM HAG hMb
        generalize n2 + 2 = n3 at *
        go_wp2_with (refine wpList_load_mid rfl 93 (.tmp 57) rfl X 50 rfl (hasL x.has) _ HND.out.hasAt Try.underlying93 rfl HAG2.out ?_)
        go_loopw [3, 59] (fun b i wr => ∃ (j : Nat) (A : Option Addr) (n c : Nat), j ≤ 16 ∧ i = .int .i64 j ∧ b = .slice A n c ∧ FrB w wr (.slice A n c) (P0 ++ entsB x j) ∧ NdAt wr X x vv vl) (fun _ i _ => 16 - (intOf i).toNat)
        case atStart => exact ⟨0, A3, n3, c3, by omega, rfl, rfl, by simpa [entsB] using HEL.out, HND.out⟩
        case round =>
          obtain ⟨j, A, n, c, hj, rfl, rfl, hf, hnd⟩ := hrel
          have HF := Lib.hid hf
          have HX := Lib.hid hnd
          have hlen := hf.len
          have hel := entsB_le HO.out hj
          have HLEN := Lib.hid hlen
          clear hf hnd HEL HND HAG2 hlen
          by_cases hj16 : j < 16
          · have hent : entsB x (j + 1) = entsB x j ++ entB x j := rfl
            have hent2 : entB x j = if x.has j then (if l = 5 then varB (x.vals j).length ++ x.vals j else varB (x.kids j).1.toNat ++ varB (x.kids j).2.toNat) else [] := by rw [HL.out]; rfl
            have hi := run_hasIdx wr x.has hj16
            have hn40 : n ≤ 2 ^ 40 := by rw [← HLEN.out, List.length_append]; omega
            have hjI : (j : Int) < 16 := by omega
            have HE1 := Lib.hid hent
            clear hent
            cases hh : x.has j
            · rw [hh] at hi hent2
              simp only [Bool.false_eq_true, if_false] at hent2
              have HE2 := Lib.hid hent2
              clear hent2
              go_wp2
              go_roundw
              case rel => exact ⟨j + 1, A, n, c, by omega, by go_num, rfl, by rw [HE1.out, HE2.out, List.append_nil]; exact HF.out, HX.out⟩
              case measure => simp [intOf]; omega
            · rw [hh] at hi hent2
              simp only [if_true] at hent2
              have y0 := HX.out.level
              rw [← HL.out] at y0
              by_cases h5 : l = 5
              · rw [if_pos h5] at hent2
                have HE2 := Lib.hid hent2
                clear hent2
                have hb5 : ((l : Int) == 5) = true := by simp; omega
                have H5 := Lib.hid h5
                clear h5
                obtain ⟨Av, nv, cv, hvv, hcv, hsv⟩ := HX.out.vs j hj16
                have hnv := hsv.1
                have HSV := Lib.hid hsv
                have HVV := Lib.hid hvv
                have hv256 := HO.out.vs j hj16
                have hnw : IntKind.u64.wrap (nv : Int) = (nv : Int) := w64_of (by omega)
                clear hsv hvv
                go_upto_region 18 with (fail)
                clear hi y0
                have HXD := Lib.hid (HX.out.up (Below.refl _ _).drew)
                have y0 := HXD.out.vals hj16
                rw [HVV.out] at y0
                obtain ⟨N2, hN2⟩ : ∃ N2, N2 = (P0 ++ entsB x j ++ varB nv ++ x.vals j).length := ⟨_, rfl⟩
                have HN2 := Lib.hid hN2
                have HNV := Lib.hid hnv
                clear hN2
                have HVA := Lib.hid (var_any wr.drew A n c (P0 ++ entsB x j) nv HF.out.drew.sby (by omega) hn40)
                go_region_law (first | (refine step_appF (by rfl) _ _ (by rfl) wr.drew _ ((P0 ++ entsB x j) ++ varB nv) (x.vals j) (by rfl) HF2.out _ _ _ (by rfl) (HSV.out.up ((Below.refl _ _).drew.trans HF2.out.bel)) (by have := varB_10 (v := nv) (by omega); simp only [List.length_append]; omega) N2 HN2.out ?_; intro A3 c3 w3 hf3; have HF3 := Lib.hid hf3; clear hf3) | (go_simp; go_at_call 88; refine HVA.out.mono ?_; rintro e w2 ⟨A2, n2, c2, rfl, hf2⟩; have HF2 := Lib.hid hf2; have y2 := (HXD.out.up hf2.bel).vals hj16; rw [HVV.out] at y2; clear hf2))
                all_goals
                  go_wp2
                  have hel := HF3.out.elder (HF.out.bel.drew)
                  have hndd := HXD.out.up HF3.out.bel
                  rw [← HNV.out, List.append_assoc, ← HE2.out, List.append_assoc, ← HE1.out] at hel
                  have HEL := Lib.hid hel
                  have HND := Lib.hid hndd
                  clear hel hndd y0 y2
                  go_roundw
                  case rel => exact ⟨j + 1, A3, N2, c3, by omega, by go_num, rfl, HEL.out, HND.out⟩
                  case measure => simp [intOf]; omega
              · rw [if_neg h5] at hent2
                have HE2 := Lib.hid hent2
                clear hent2
                have h5i : ¬ (l : Int) = 5 := by omega
                have hkd := HO.out.kd j hj16
                go_upto_region 15 with (fail)
                clear hi y0
                have HXD := Lib.hid (HX.out.up (Below.refl _ _).drew)
                obtain ⟨y0, y1⟩ := HXD.out.kid hj16
                obtain ⟨k1, hk1⟩ : ∃ k1, k1 = (x.kids j).1.toNat := ⟨_, rfl⟩
                obtain ⟨k2, hk2⟩ : ∃ k2, k2 = (x.kids j).2.toNat := ⟨_, rfl⟩
                have e1 : (x.kids j).1 = (k1 : Nat) := by omega
                have e2 : (x.kids j).2 = (k2 : Nat) := by omega
                rw [e1] at y0
                rw [e2] at y1
                rw [← hk1, ← hk2] at HE2
                have g1 : k1 < 2147483648 := by omega
                have g2 : k2 < 2147483648 := by omega
                have hw1 : IntKind.u64.wrap (k1 : Int) = (k1 : Int) := w64_of (by omega)
                have hw2 : IntKind.u64.wrap (k2 : Int) = (k2 : Int) := w64_of (by omega)
                have HY1 := Lib.hid (And.intro e1 e2)
                clear hk1 hk2 e1 e2 hkd
                have HVA := Lib.hid (var_any wr.drew A n c (P0 ++ entsB x j) k1 HF.out.drew.sby (by omega) hn40)
                go_region_law (first | (go_simp; go_at_call 88; refine HVA.out.mono ?_; rintro e w2 ⟨A2, n2, c2, rfl, hf2⟩; have HF2 := Lib.hid hf2; obtain ⟨y2, y3⟩ := (HXD.out.up hf2.bel).kid hj16; rw [HY1.out.1] at y2; rw [HY1.out.2] at y3; clear hf2 HVA) | (go_simp; go_at_call 88; refine (var_any _ A2 n2 c2 (P0 ++ entsB x j ++ varB k1) k2 HF2.out.sby (by omega) (by rw [← HF2.out.len]; have := varB_10 (v := k1) (by omega); simp only [List.length_append]; omega)).mono ?_; rintro e w3 ⟨A3, n3, c3, rfl, hf3⟩; have HF3 := Lib.hid hf3; clear hf3))
                all_goals
                  go_wp2
                  have hel := (HF3.out.elder HF2.out.bel).elder (HF.out.bel.drew)
                  have hndd := (HXD.out.up HF2.out.bel).up HF3.out.bel
                  rw [List.append_assoc, ← HE2.out, List.append_assoc, ← HE1.out] at hel
                  have HEL := Lib.hid hel
                  have HND := Lib.hid hndd
                  clear hel hndd
                  go_roundw
                  case rel => exact ⟨j + 1, A3, _, c3, by omega, by go_num, rfl, HEL.out, HND.out⟩
                  case measure => simp [intOf]; omega
          · obtain rfl : j = 16 := by omega
            go_wp2
            go_ret
            have h1 := HLEN.out
            have h2 := HF.out
            rw [← HNB2.out] at h1 h2
            subst h1
            exact ⟨A, c, rfl, h2⟩
end Go.Proofs.Ytgkdggidgaifhaa
