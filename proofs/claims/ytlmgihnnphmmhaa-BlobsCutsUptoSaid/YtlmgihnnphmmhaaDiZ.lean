/- disk: the closure of Cut. UNDER WAY. -/
import Derived.Test.YtlmgihnnphmmhaaDhZ
import Derived.Test.YtlmgihnnphmmhaaSeZ
namespace Go.Proofs.Ytlmgihnnphmmhaa
open Go.RowKit Go.Maps
set_option linter.unusedVariables false
set_option linter.unusedSimpArgs false

set_option maxRecDepth 100000 in
set_option maxHeartbeats 1000000 in
theorem cut1_any (w : World) {bx : Nat} {A : Option Addr} {n c : Nat} {F : List Bool} (hb : w.cell? ⟨bx, 0, none⟩ = some (.slice A n c)) (hF : SBl w A n F) (i : Nat) :
    Calls Try.prog 70 #[.int .i64 (i : Nat), .pointer (some ⟨bx, 0, none⟩)] w fun e w' => e = .returned (.bool (F.getD i false)) ∧ w' = w := by
  by_cases hi : i < n
  · obtain ⟨G, o, rfl, hG, hc⟩ := hF.2 (by omega)
    have c0 : w.cell? ⟨G, o + i, none⟩ = some (.bool (F.getD i false)) := hc i hi
    have i1 : (i : Int) < (n : Int) := by omega
    clear hc hF
    generalize F.getD i false = x at *
    go_enter Try.func70, Try.ntmps70
    go_wp2
    go_ret
    exact ⟨rfl, rfl⟩
  · have h0 : F.getD i false = false := by
      have := hF.1
      simp [List.getD_eq_getElem?_getD, List.getElem?_eq_none (show F.length ≤ i by omega)]
    rw [h0]
    have i1 : ¬ (i : Int) < (n : Int) := by omega
    clear hF
    go_enter Try.func70, Try.ntmps70
    go_wp2
    go_ret
    exact ⟨rfl, rfl⟩
end Go.Proofs.Ytlmgihnnphmmhaa
