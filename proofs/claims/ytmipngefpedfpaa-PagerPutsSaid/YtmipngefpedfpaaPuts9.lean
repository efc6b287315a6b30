/- PagerPuts returns true for every input: a page that is saved, and not written since, is not put again, by Save or by Evict. No condition. -/
import Derived.Test.YtmipngefpedfpaaWe
import Derived.Test.YtmipngefpedfpaaLiftP
namespace Go.Proofs.Ytmipngefpedfpaa
open Go.ChangeShapes Go.WideShapes Go.ChangeAt Go.RowKit Go.Joins Go.Deep
set_option linter.unusedVariables false
set_option linter.unusedSimpArgs false

theorem puts_walk (w : World) {size held : Int} {A B : Option Addr} {na ca nb cb : Nat} {La : Bytes} {G : Nat → Int} (hA : SBy w A na La) (hB : SIn w B nb G) :
    Calls Try.prog 4 #[.int .i64 size, .int .i64 held, .slice A na ca, .slice B nb cb] w fun e w' => e = .returned (.bool true) ∧ Below w.heap.size w w' := by
  by_cases h : 16 ≤ size ∧ size ≤ 256 ∧ 1 ≤ held ∧ held ≤ 20 ∧ na ≤ 20 ∧ nb ≤ 50
  · obtain ⟨h1, h2, h3, h4, h5, h6⟩ := h
    obtain ⟨z, rfl⟩ := Int.eq_ofNat_of_zero_le (show 0 ≤ size by omega)
    obtain ⟨o, rfl⟩ := Int.eq_ofNat_of_zero_le (show 0 ≤ held by omega)
    exact puts_yes w hA hB (by omega) (by omega) (by omega) (by omega) h5 h6
  · exact puts_no w h
theorem sin_of {H : Type} {enc : TypeId × Value → H} {w : World} {A : Option Addr} {n c : Nat} {d : DataW H} {p : List MemPlace} (h : DataW.Trod enc Try.prog w 0 (fun _ => true) true 38 (.slice A n c) d p) : n ≤ maxLen ∧ ∃ G, SIn w A n G := by
  have cellsI : Try.prog.cellsOf 3 = 1 := by kernel_rfl
  obtain ⟨hm, hr⟩ := rows_of Try.underlying38 (by rw [cellsI]; omega) h
  refine ⟨hm, ?_⟩
  rcases Nat.eq_zero_or_pos n with h0 | hp
  · exact ⟨fun _ => 0, fun h => by omega⟩
  obtain ⟨b, o, rfl, hb, hc⟩ := hr hp
  have hall : ∀ k, ∃ x : Int, k < n → w.cell? ⟨b, o + k, none⟩ = some (.int .i64 x) := by
    intro k
    by_cases hk : k < n
    · obtain ⟨cs, m, x, hlen, ht, hat⟩ := hc k hk
      rw [cellsI] at hat hlen
      match cs, hlen with
      | [v], _ =>
        obtain ⟨f, k3, _⟩ := DataW.trod_int Try.underlying3 ht
        simp at k3
        subst k3
        have := hat 0 (by omega)
        simp at this
        exact ⟨f, fun _ => this⟩
    · exact ⟨0, fun h => absurd h hk⟩
  exact ⟨fun k => Classical.choose (hall k), fun _ => ⟨b, o, rfl, hb, fun k hk => Classical.choose_spec (hall k) hk⟩⟩
set_option maxRecDepth 100000 in
theorem puts_lifted (os : Os) (started : os.Started) (H : Type) (enc : TypeId × Value → H) :
    ReturnsInHanded {} Try.checked os 4 .any (Rows.pagerPutsSpec.pre6 enc Try.prog Try.f4 Rows.pagerPutsRow.domain false) (Rows.pagerPutsSpec.post enc Try.prog Try.f4 false true false false) := by
  refine returnsInHanded_of_change (C := Try.checked) own started (by kernel_rfl) Try.func4
    (ChangeSpec.witness6 (enc := enc) (C := Try.checked) false ⟨#[], #[.int .i64 0, .int .i64 0, .slice none 0 0, .slice none 0 0], []⟩ 8 (by kernel_rfl) (by kernel_rfl) (by kernel_rfl) (by kernel_rfl)) ?_
  intro W base args ds gs before hval0 hW hcnd _
  have hval : ∀ (j : Nat) t v, Try.f4.params[j]? = some t → args[j]? = some v → Value.okWide Try.prog W .any base t v := hval0
  have hW' := hW
  obtain ⟨p, q, hA0, hV, rfl, hfz, hnd⟩ := hW
  have hA : DataW.TrodAll enc Try.prog W 0 (fun _ => true) true Try.f4.params.toList args.toList ds p := hA0
  rw [Try.params4] at hA hval
  have hAA := hA
  obtain ⟨v0, vs0, d0, ds0, p0, q0, hargs, rfl, rfl, h0, r0⟩ := trodAll_cons hA
  obtain ⟨v1, vs1, d1, ds1, p1, q1, rfl, rfl, rfl, h1, r1⟩ := trodAll_cons r0
  obtain ⟨v2, vs2, d2, ds2, p2, q2, rfl, rfl, rfl, h2, r2⟩ := trodAll_cons r1
  obtain ⟨v3, vs3, d3, ds3, p3, q3, rfl, rfl, rfl, h3, r3⟩ := trodAll_cons r2
  obtain ⟨rfl, rfl, rfl⟩ := trodAll_nil r3
  obtain rfl : args = #[v0, v1, v2, v3] := by cases args; simp_all
  obtain ⟨rfl, rfl⟩ := trodVars_none hV
  obtain ⟨s0, rfl, _, _, wf0⟩ := open_int Try.underlying3 (hval 0 3 v0 rfl rfl) h0
  obtain ⟨s1, rfl, _, _, wf1⟩ := open_int Try.underlying3 (hval 1 3 v1 rfl rfl) h1
  obtain ⟨A2, n2, c2, rfl⟩ := okWide_slice Try.underlying22 (hval 2 22 v2 rfl rfl)
  obtain ⟨A3, n3, c3, rfl⟩ := okWide_slice Try.underlying38 (hval 3 38 v3 rfl rfl)
  obtain ⟨m2, hm2⟩ := h2
  obtain ⟨_, _, L2, hL2⟩ := open_by hm2
  obtain ⟨_, G3, hG3⟩ := sin_of h3
  refine (puts_walk W hL2 hG3).mono fun e W' ⟨he, bel⟩ => ?_
  subst he
  exact ⟨_, rfl, _, _, _, [], _, [], hW', trodAll_mk1 (shut_bool Try.underlying4 _), trodAll_below laidOut bel (by kernel_rfl) hAA, rfl, bel.frame _, fun h => by cases h⟩

theorem puts_over : Rows.pagerPutsRow.holds Try.pinned (OpenSpec.ofChange Rows.pagerPutsSpec) :=
  OpenClaim.holds_of_wide 4 Try.f4 rfl rfl rfl rfl rfl rfl rfl ⟨rfl, rfl, rfl, rfl, rfl⟩ rfl rfl rfl rfl rfl (by kernel_rfl) Try.func4 (by kernel_rfl)
    (of_decide_eq_true (by kernel_rfl)) (by unfold Func.isWrapper; first | (rw [if_pos (by decide +kernel)]; kernel_rfl) | (rw [if_neg (by decide +kernel)]; exact ⟨rfl, rfl⟩))
    (fun os started H enc _ => puts_lifted os started H enc)

theorem pagerPuts_proved : Rows.PagerPutsSaid := puts_over
#print axioms pagerPuts_proved
end Go.Proofs.Ytmipngefpedfpaa
