/- A space: Slots, Weight, Regions. -/
import Derived.Test.YtlhfjaagkgengaaGreatMVa
import Derived.Test.YtlhfjaagkgengaaGreatErZ
import Derived.Test.YtlhfjaagkgengaaGreatUsZ
namespace Go.Proofs.YtlhfjaagkgengaaGreat
open Go.RowKit Go.Maps
set_option linter.unusedVariables false
set_option linter.unusedSimpArgs false
def slE : El (Int × Int) where
  sl := 37
  el := 59
  z := .agg #[.int .i64 0, .int .i64 0]
  bytes := 16
  k := 2
  ht := Tryz.underlying37
  hi := by kernel_rfl
  hzs := rfl
  hk := by decide
  hb64 := by decide
  cells x := [.int .i64 x.1, .int .i64 x.2]
  len _ := rfl
  one x u hu := by
    simp at hu
    rcases hu with rfl | rfl <;> rfl
/-- The slots of a space, rising. -/
structure SlOf (m : Int → Option Int) (n : Nat) (L : List (Int × Int)) : Prop where
  up : L.Pairwise (fun x y => x.1 < y.1)
  mem : ∀ k id, (k, id) ∈ L ↔ m k = some id
  len : L.length = n
def slL (m : Int → Option Int) (ks : List Int) : List (Int × Int) := ks.map fun k => (k, (m k).getD 0)
theorem slL_of {m : Int → Option Int} {n : Nat} {ks : List Int} (h : KsOf (spF m) n ks) (hp : ks.Pairwise (fun x y => x < y)) : SlOf m n (slL m ks) := by
  have hm : ∀ k, k ∈ ks ↔ (m k).isSome = true := fun k => by rw [h.mem, spF_at, Option.isSome_map]
  refine ⟨?_, fun k id => ?_, by rw [slL, List.length_map]; exact h.len⟩
  · unfold slL
    rw [List.pairwise_map]
    exact hp
  · unfold slL
    rw [List.mem_map]
    constructor
    · rintro ⟨k', hk, e⟩
      injection e with e1 e2
      subst e1
      have := (hm k').1 hk
      cases hv : m k' with
      | none => rw [hv] at this; cases this
      | some i => rw [hv] at e2; simp at e2; rw [e2]
    · intro hv
      exact ⟨k, (hm k).2 (by rw [hv]; rfl), by rw [hv]; rfl⟩
theorem MapIs.key_ok {P : Program} {k : TypeId} {w : World} {b c : Nat} {f : Value → Option Value} (h : MapIs P k w b f c) {key v : Value} (hf : f key = some v) : ∃ l, keyOf P k key = some l := by
  obtain ⟨es, clock, hb, hst, hc, hk, h1, h2⟩ := h
  obtain ⟨x, hx, rfl⟩ := h2 key v hf
  exact hk x hx
section
variable {w w' : World} {D : SpD} {A : Option Addr} {cap n : Nat} {L : List Rg} {m : Int → Option Int} {S : Nat → Prop}
def SlPost (w : World) (m : Int → Option Int) (n : Nat) (e : Ending) (w' : World) : Prop :=
  ∃ A c l, SlOf m n l ∧ e = .returned (.slice A n c) ∧ FrE slE w w' (.slice A n c) l
set_option maxRecDepth 100000 in
set_option maxHeartbeats 4000000 in
theorem slots_b (h : SpAt w D A cap L m n) (hn : n ≤ 100000) : Calls Tryz.prog 19 #[.pointer (some ⟨D.X, 0, none⟩)] w (SlPost w m n) := by
  have H := Lib.hid h
  have c11 := h.c11
  have lX := h.ltX
  have hky := keysI_any w D.Mm
  have HKY := Lib.hid hky
  clear h hky
  go_enter Tryz.func19, Tryz.ntmps19
  go_wp2_with (go_at_call 68; refine HKY.out.mono ?_; rintro e w1 ⟨rfl, hb1, cb1⟩; have HB1 := Lib.hid hb1; have CB1 := Lib.hid cb1; clear hb1 cb1)
  have HSD := Lib.hid (sortedI_any CB1.out ((H.out.up HB1.out).mp) (fun key v hf => by obtain ⟨k, _, e, _⟩ := spF_inv hf; exact ⟨k, e⟩) (by omega))
  refine HSD.out.mono ?_
  rintro e w2 ⟨Ak, ck, ks, hks, rfl, hj, hb2, hjO⟩
  have HKS := Lib.hid hks
  have HJ := Lib.hid hj
  have HB2 := Lib.hid (HB1.out.trans (hb2.mono HB1.out.size))
  have HJO := Lib.hid hjO
  have hkl := hks.1.len
  clear hks hj hb2 hjO HSD HKY CB1
  go_wp2_with fail
  go_loopw [3, 13, 5] (fun out i _ wr => ∃ (j : Nat) (A' : Option Addr) (c' : Nat), j ≤ n ∧ i = .int .i64 (j : Nat) ∧ out = .slice A' j c' ∧ FrE slE w2 wr (.slice A' j c') (slL m (ks.take j))) (fun _ i _ _ => n - (intOf i).toNat)
  case atStart => exact ⟨0, none, 0, by omega, rfl, rfl, FrE.nil slE w2⟩
  case round =>
    obtain ⟨j, A1, c1, hjn, rfl, rfl, hfr⟩ := hrel
    have HF := Lib.hid hfr
    have hb := hfr.2
    by_cases hlt : j < n
    · obtain ⟨x, hx⟩ : ∃ x, ks[j]? = some x := ⟨_, List.getElem?_eq_getElem (by omega)⟩
      obtain ⟨g, o, hA, hg, hc⟩ := (HJ.out.up hb).at_ (by omega)
      have q0 := hc j x hx
      have hjI : (j : Int) < (n : Int) := by omega
      have hs := (H.out.up HB2.out).up hb
      have d11 := hs.c11
      have lX1 := hs.ltX
      obtain ⟨id, hid⟩ : ∃ id, m x = some id := by
        have := (HKS.out.1.mem x).1 (List.mem_of_getElem? hx)
        rw [spF_at, Option.isSome_map] at this
        cases hv : m x with
        | none => rw [hv] at this; cases this
        | some id => exact ⟨id, rfl⟩
      obtain ⟨kl, hkl2⟩ := hs.mp.key_ok (key := .int .i64 x) (v := .int .i64 id) (by rw [spF_at, hid]; rfl)
      have hlk := MapIs.look hs.mp intKeyed Tryz.underlying112 (by kernel_rfl : (zeroValue 3).run Tryz.prog wr = .ok (.int .i64 0) wr) hkl2 false
      rw [spF_at, hid] at hlk
      simp only [Bool.false_eq_true, if_false, Option.map_some, Option.getD_some] at hlk
      have hsl : slL m (ks.take (j + 1)) = slL m (ks.take j) ++ [(x, id)] := by
        unfold slL
        rw [List.take_add_one, hx, List.map_append]
        simp [hid]
      have hln : (slL m (ks.take j)).length = j := by unfold slL; rw [List.length_map, List.length_take]; omega
      obtain ⟨A2, c2, w3, hr3, hf3, ho3⟩ := hfr.push (x, id) 59 (by omega) 37
      rw [hln] at hr3 hf3
      rw [← hsl] at hf3
      have HF3 := Lib.hid hf3
      clear hfr hb hs hid hkl2 hsl hln hf3 ho3 hc hx
      rw [hA]
      have HA := Lib.hid hA
      clear hA
      go_wp2_with (at_builtin; go_must (refine wpList_append_run2 rfl (.tmp 17) (.tmp 26) 37 37 rfl _ _ rfl rfl hr3 ?_))
      go_roundw
      case rel => exact ⟨j + 1, A2, c2, by omega, by go_num, rfl, HF3.out⟩
      case measure => simp [intOf]; omega
    · obtain rfl : j = n := by omega
      have hii : ¬ (j : Int) < (j : Int) := by omega
      clear hlt hfr hb
      go_wp2
      go_ret
      have hf := HF.out
      rw [← hkl, List.take_length, hkl] at hf
      exact ⟨A1, c1, _, slL_of HKS.out.1 HKS.out.2, rfl, hf.1.mono HB2.out.size, HB2.out.trans (hf.2.mono HB2.out.size)⟩
theorem weight_b (h : SpAt w D A cap L m n) (hL : L.length ≤ 10000) (hn : n ≤ 1000000) : Calls Tryz.prog 25 #[.pointer (some ⟨D.X, 0, none⟩)] w fun e w' => e = .returned (.int .i64 ((L.length + n : Nat) : Int)) ∧ Below w.heap.size w w' := by
  have c10 := h.c10
  have c11 := h.c11
  have lX := h.ltX
  have hl := fun nq ty => MapIs.len (h.up (below_drewN (Below.refl w.heap.size w) nq)).mp Tryz.underlying112 ty
  have hw : IntKind.i64.wrap ((L.length : Int) + (n : Int)) = (L.length : Int) + (n : Int) := IntWalk.i64_in _ (by omega)
  clear h
  go_enter Tryz.func25, Tryz.ntmps25
  go_upto_region 1 with (fail)
  go_quiet (fail)
  go_wp2
  go_ret
  exact ⟨by simp, below_drewN (Below.refl _ _) _⟩
theorem regions_b (h : SpAt w D A cap L m n) (hL : L.length ≤ 10000) : Calls Tryz.prog 24 #[.pointer (some ⟨D.X, 0, none⟩)] w fun e w' => ∃ A' c', e = .returned (.slice A' L.length c') ∧ FrG w w' (.slice A' L.length c') L := by
  have c10 := h.c10
  have lX := h.ltX
  have HC := Lib.hid (cloneG_any w cap h.row (by omega))
  clear h
  go_enter Tryz.func24, Tryz.ntmps24
  go_wp2_with (go_at_call 78; refine HC.out.mono ?_; rintro e w1 ⟨A1, c1, rfl, how, hb1⟩; have HF := Lib.hid (And.intro how hb1); clear how hb1)
  go_ret
  exact ⟨A1, c1, rfl, HF.out⟩
end
end Go.Proofs.YtlhfjaagkgengaaGreat
