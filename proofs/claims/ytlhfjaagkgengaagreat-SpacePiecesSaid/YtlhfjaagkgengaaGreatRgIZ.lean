/- region: Unmap, Protect. -/
import Derived.Test.YtlhfjaagkgengaaGreatRgHZ
namespace Go.Proofs.YtlhfjaagkgengaaGreat
open Go.RowKit
set_option linter.unusedVariables false
set_option linter.unusedSimpArgs false
theorem cutR_len (L : List Rg) (lo hi : Int) : (cutR L lo hi).length ≤ 2 * L.length := by
  unfold cutR
  split
  · omega
  · exact flat_len lo hi L
theorem joinedR_len (L : List Rg) : (joinedR L).length ≤ L.length := by
  have := join_len (sortG L)
  simpa [joinedR, sortG] using this
theorem FrG.join {w0 w w' : World} {v v' : Value} {L M : List Rg} (h : FrG w0 w v L) (ho : OwG w.heap.size w' v' M) (hf : Off (fun k => v.ownBlock = some k) w w') : FrG w0 w' v' M :=
  ⟨ho.low h.2.size, h.2.trans (hf.below (fun k e => (h.1.lt e).1) h.2.size)⟩
/-- One more region, then joined. -/
theorem FrG.pushJoin {w0 w : World} {A : Option Addr} {c : Nat} {M N : List Rg} (h : FrG w0 w (.slice A M.length c) M) (lo hi p : Int) (hN : M ++ [⟨lo, hi, p⟩] = N) (hd : RgDist N) (hlen : M.length ≤ 50000) :
    ∃ A' c' w', (Builtin.append_ #[41, 41] 41 #[.slice A M.length c, .slice (some ⟨w.heap.size, 0, none⟩) 1 1]).run Tryz.prog (w.alloc (.cells #[.int .i64 lo, .int .i64 hi, .int .i64 p] 62)) = .ok (.slice A' N.length c') w' ∧
      Calls Tryz.prog 145 #[.slice A' N.length c'] w' fun e w2 => ∃ A2 c2, e = .returned (.slice A2 (joinedR N).length c2) ∧ FrG w0 w2 (.slice A2 (joinedR N).length c2) (joinedR N) := by
  subst hN
  obtain ⟨A2, c2, w4, hr2, hf2, _⟩ := h.push ⟨lo, hi, p⟩ 62 (by omega) 41
  have hl : (M ++ [(⟨lo, hi, p⟩ : Rg)]).length = M.length + 1 := by simp
  rw [← hl] at hr2 hf2
  refine ⟨A2, c2, w4, hr2, ?_⟩
  refine (joined_any w4 hf2.1 hf2.2.size hd (by omega)).mono ?_
  rintro e w5 ⟨A3, c3, rfl, ho5, hf5⟩
  exact ⟨A3, c3, rfl, hf2.join ho5 hf5⟩
theorem unmapG_any (w : World) {A : Option Addr} (c : Nat) {L : List Rg} (hL : RgAt w A L) (hn : L.length ≤ 100000) (lo hi : Int) :
    Calls Tryz.prog 183 #[.slice A L.length c, .int .i64 lo, .int .i64 hi] w fun e w' => ∃ A' c', e = .returned (.slice A' (cutR L lo hi).length c') ∧ FrG w w' (.slice A' (cutR L lo hi).length c') (cutR L lo hi) := by
  have HC := Lib.hid (cutG_any w c hL hn lo hi)
  clear hL
  go_enter Tryz.func183, Tryz.ntmps183
  go_wp2_with (go_at_call 198; refine HC.out.mono ?_; rintro e W1 ⟨A1, c1, rfl, hf⟩; have HF := Lib.hid hf; clear hf)
  go_ret
  exact ⟨_, _, rfl, HF.out⟩
def protF (L : List Rg) (lo hi p : Int) : List Rg × Int :=
  if rightB lo hi p = false then ([], 1) else if allF L lo hi 0 = false then ([], 2) else (joinedR (cutR L lo hi ++ [⟨lo, hi, p⟩]), 0)
def mapF (L : List Rg) (lo hi p : Int) : List Rg × Int :=
  if rightB lo hi p = false then ([], 1) else if piecesF L lo hi ≠ [] then ([], 3) else (joinedR (L ++ [⟨lo, hi, p⟩]), 0)
def RgPost (w : World) (R : List Rg × Int) (e : Ending) (w' : World) : Prop :=
  ∃ A' c', e = .returned (.tuple #[.slice A' R.1.length c', .int .i64 R.2]) ∧ FrG w w' (.slice A' R.1.length c') R.1
set_option maxRecDepth 100000 in
set_option maxHeartbeats 4000000 in
theorem protG_any (w : World) {A : Option Addr} (c : Nat) {L : List Rg} (hL : RgAt w A L) (hn : L.length ≤ 10000) (lo hi p : Int) (hd : rightB lo hi p = true → allF L lo hi 0 = true → RgDist (cutR L lo hi ++ [⟨lo, hi, p⟩])) :
    Calls Tryz.prog 184 #[.slice A L.length c, .int .i64 lo, .int .i64 hi, .int .i64 p] w (RgPost w (protF L lo hi p)) := by
  obtain ⟨b1, hb1⟩ : ∃ b, rightB lo hi p = b := ⟨_, rfl⟩
  obtain ⟨b2, hb2⟩ : ∃ b, allF L lo hi 0 = b := ⟨_, rfl⟩
  have HR : Hid (Calls Tryz.prog 143 #[.int .i64 lo, .int .i64 hi, .int .i64 p] w fun e w' => e = .returned (.bool b1) ∧ w' = w) := Lib.hid (by rw [← hb1]; exact rright_any w lo hi p)
  have HA : Hid (Calls Tryz.prog 101 #[.slice A L.length c, .int .i64 lo, .int .i64 hi, .int .i64 0] w fun e w' => e = .returned (.bool b2) ∧ Below w.heap.size w w') := Lib.hid (by rw [← hb2]; exact all_any w c hL (by omega) lo hi 0)
  have HL := Lib.hid hL
  have HD := Lib.hid hd
  unfold RgPost protF
  rw [hb1, hb2]
  rw [hb1, hb2] at HD
  clear hL hd hb1 hb2
  have hlen := cutR_len L lo hi
  cases b1 with
  | false =>
    go_enter Tryz.func184, Tryz.ntmps184
    go_wp2_with (go_at_call 143; refine HR.out.mono ?_; rintro e w1 ⟨rfl, rfl⟩)
    go_ret2
    exact ⟨none, 0, rfl, FrG.nil _⟩
  | true =>
    cases b2 with
    | false =>
      go_enter Tryz.func184, Tryz.ntmps184
      go_wp2_with (first | (go_at_call 143; refine HR.out.mono ?_; rintro e w1 ⟨rfl, rfl⟩) | (go_at_call 101; refine HA.out.mono ?_; rintro e w2 ⟨rfl, hbl⟩; have HBL := Lib.hid hbl; clear hbl))
      go_ret2
      exact ⟨none, 0, rfl, (FrG.nil _).up HBL.out⟩
    | true =>
      obtain ⟨M, hM⟩ : ∃ M, cutR L lo hi = M := ⟨_, rfl⟩
      have HC : Hid (∀ w1, Below w.heap.size w w1 → Calls Tryz.prog 198 #[.slice A L.length c, .int .i64 lo, .int .i64 hi] w1 fun e w' => ∃ A' c', e = .returned (.slice A' M.length c') ∧ FrG w1 w' (.slice A' M.length c') M) := Lib.hid fun w1 hb => by
        have := cutG_any w1 c (HL.out.up hb) (by omega) lo hi
        rw [hM] at this
        exact this
      have HDD := Lib.hid (HD.out rfl rfl)
      rw [hM] at HDD hlen
      rw [hM]
      clear hM HD
      have hl1 : (M ++ [(⟨lo, hi, p⟩ : Rg)]).length = M.length + 1 := by simp
      obtain ⟨N, hN⟩ : ∃ N, M ++ [(⟨lo, hi, p⟩ : Rg)] = N := ⟨_, rfl⟩
      rw [hN] at HDD hl1
      have HN := Lib.hid hN
      simp only [hN, Bool.true_eq_false, if_false]
      clear hN
      go_enter Tryz.func184, Tryz.ntmps184
      go_upto_region 5 with (first
        | (go_at_call 143; refine HR.out.mono ?_; rintro e w1 ⟨rfl, rfl⟩)
        | (go_at_call 101; refine HA.out.mono ?_; rintro e w2 ⟨rfl, hbl⟩; have HBL := Lib.hid hbl; clear hbl))
      have HC2 := Lib.hid (HC.out _ HBL.out)
      clear HC HR HA
      have HPJ : Hid (∀ w3 A1 c1, FrG w2 w3 (.slice A1 M.length c1) M → ∃ A' c' w', (Builtin.append_ #[41, 41] 41 #[.slice A1 M.length c1, .slice (some ⟨w3.heap.size, 0, none⟩) 1 1]).run Tryz.prog (w3.alloc (.cells #[.int .i64 lo, .int .i64 hi, .int .i64 p] 62)) = .ok (.slice A' N.length c') w' ∧
        Calls Tryz.prog 145 #[.slice A' N.length c'] w' fun e w5 => ∃ A2 c2, e = .returned (.slice A2 (joinedR N).length c2) ∧ FrG w2 w5 (.slice A2 (joinedR N).length c2) (joinedR N)) := Lib.hid fun w3 A1 c1 h => h.pushJoin lo hi p HN.out HDD.out (by omega)
      clear HN HDD HL hl1 hlen hn
      go_wp2_with (first
        | (go_at_call 198; go_loud (refine HC2.out.mono ?_; rintro e w3 ⟨A1, c1, rfl, hf⟩; obtain ⟨A2, c2, w4, hr2, hj⟩ := HPJ.out _ _ _ hf; have HJ := Lib.hid hj; clear hf hj HPJ))
        | (at_builtin; go_must (refine wpList_append_run rfl (.tmp 25) (.tmp 30) 41 rfl _ _ rfl rfl hr2 ?_))
        | (go_at_call 145; go_loud (refine HJ.out.mono ?_; rintro e w5 ⟨A3, c3, rfl, hf⟩; have HF5 := Lib.hid hf; clear hf)))
      go_ret2
      have h := HF5.out
      exact ⟨A3, c3, rfl, h.1.low HBL.out.size, HBL.out.trans (h.2.mono HBL.out.size)⟩
end Go.Proofs.YtlhfjaagkgengaaGreat
