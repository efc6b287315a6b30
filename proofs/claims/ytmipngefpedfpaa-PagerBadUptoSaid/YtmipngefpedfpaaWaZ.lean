/- PagerCopies, walked. -/
import Derived.Test.YtmipngefpedfpaaMV
namespace Go.Proofs.Ytmipngefpedfpaa
open Go.RowKit Go.Maps
set_option linter.unusedVariables false
set_option linter.unusedSimpArgs false

theorem secP_all {L : Bytes} {n : Nat} (h : L.length = n) : secP L 0 n = L := by unfold secP; rw [List.drop_zero, ← h, List.take_length]
section
variable {S : Nat} {w0 w w' w1 w2 : World} {d : PD} {t t' t1 t2 : PSt ShS} {C C' : Cn} {R : Prop} {k k1 k2 : Nat} {id : Int} {E : Int → Prop} {o : Option Bytes} {b : Bytes}
/-- Bytes that came in lie apart from the pager. -/
theorem SBy.inV {A : Option Addr} {n c : Nat} {L : Bytes} (h : SBy w0 A n L) (hv : Vw S w0 w d t C R k) : SBy w A n L ∧ VIn (fun k => ¬ Own d t k) (.slice A n c) := by
  refine ⟨h.up hv.bel, fun b o n' c' e hp hb => ?_⟩
  cases e
  obtain ⟨b', o', e', hlt, _⟩ := h.2 hp
  cases e'
  have := hv.own b hb
  omega
theorem SlB.nx {v : Value} {L : Bytes} (h : SlB w v L) (hn : Nx S w w' d t t') (hv : VIn (fun b => ¬ Own d t b) v) : SlB w' v L := h.offP hn.off hv
end
set_option maxRecDepth 100000 in
set_option maxHeartbeats 4000000 in
theorem copies_no (w : World) {size off ev : Int} {A B : Option Addr} {na ca nb cb : Nat} (h : ¬ (16 ≤ size ∧ size ≤ 256 ∧ (na : Int) ≤ size ∧ 0 ≤ off ∧ off ≤ size ∧ (nb : Int) ≤ size - off)) :
    Calls Try.prog 3 #[.int .i64 size, .slice A na ca, .slice B nb cb, .int .i64 off, .int .i64 ev] w fun e w' => e = .returned (.bool true) ∧ Below w.heap.size w w' := by
  have go : ∀ (p : Prop), True := fun _ => trivial
  by_cases h1 : size < 16
  · clear h
    go_enter Try.func3, Try.ntmps3
    go_wp2_with (go_at_call 8; refine (known_any _).mono ?_; rintro e w1 ⟨rfl, hb⟩; have HB := Lib.hid hb; clear hb)
    go_ret
    exact ⟨rfl, HB.out⟩
  by_cases h2 : 256 < size
  · clear h
    go_enter Try.func3, Try.ntmps3
    go_wp2_with (go_at_call 8; refine (known_any _).mono ?_; rintro e w1 ⟨rfl, hb⟩; have HB := Lib.hid hb; clear hb)
    go_ret
    exact ⟨rfl, HB.out⟩
  by_cases h3 : size < (na : Int)
  · clear h
    go_enter Try.func3, Try.ntmps3
    go_wp2_with (go_at_call 8; refine (known_any _).mono ?_; rintro e w1 ⟨rfl, hb⟩; have HB := Lib.hid hb; clear hb)
    go_ret
    exact ⟨rfl, HB.out⟩
  by_cases h4 : off < 0
  · clear h
    go_enter Try.func3, Try.ntmps3
    go_wp2_with (go_at_call 8; refine (known_any _).mono ?_; rintro e w1 ⟨rfl, hb⟩; have HB := Lib.hid hb; clear hb)
    go_ret
    exact ⟨rfl, HB.out⟩
  by_cases h5 : size < off
  · clear h
    go_enter Try.func3, Try.ntmps3
    go_wp2_with (go_at_call 8; refine (known_any _).mono ?_; rintro e w1 ⟨rfl, hb⟩; have HB := Lib.hid hb; clear hb)
    go_ret
    exact ⟨rfl, HB.out⟩
  by_cases h6 : size - off < (nb : Int)
  · clear h
    go_enter Try.func3, Try.ntmps3
    go_wp2_with (go_at_call 8; refine (known_any _).mono ?_; rintro e w1 ⟨rfl, hb⟩; have HB := Lib.hid hb; clear hb)
    go_ret
    exact ⟨rfl, HB.out⟩
  · exact absurd (by omega) h
end Go.Proofs.Ytmipngefpedfpaa
