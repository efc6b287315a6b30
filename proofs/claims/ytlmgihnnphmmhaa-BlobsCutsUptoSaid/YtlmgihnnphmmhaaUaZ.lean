/- blobs: Flush. -/
import Derived.Test.YtlmgihnnphmmhaaDkZ
namespace Go.Proofs.Ytlmgihnnphmmhaa
open Go.RowKit
set_option linter.unusedVariables false
set_option linter.unusedSimpArgs false

section
variable {B : Nat} {w : World} {P D T M : Nat} {O : Nat → Prop} {s : StS}
/-- The disk alone has changed. -/
theorem StAt.disk (h : StAt B w P D T M O s) {w' : World} {d : DkS} (hd : DkAt B w' D d O) (ho : Off O w w') (hS : d.S = s.d.S) (hz : d.z = s.d.z) : StAt B w' P D T M O { s with d := d } := by
  obtain ⟨l1, l2, l3, l4⟩ := h.lts
  obtain ⟨d1, d2, d3, d4, d5⟩ := h.dis
  have c : ∀ j, w'.cell? ⟨P, j, none⟩ = w.cell? ⟨P, j, none⟩ := fun j => ho.cell (p := ⟨P, j, none⟩) l1 d1
  exact ⟨⟨h.bx.up c, (c 9).trans h.c9, (c 10).trans h.c10, (c 11).trans h.c11, (c 12).trans h.c12, fun j => (ho.frozen (p := ⟨P, j, none⟩) l1 d1).trans (h.zf j), hd, h.tb.off ho d2 d3, h.lo, h.dis⟩, ⟨h.ok.ok, hS.trans h.ok.dS, hz.trans h.ok.dz, h.ok.tn, h.ok.opn, h.ok.one, h.ok.usl, h.ok.us0, h.ok.uk⟩⟩
set_option maxRecDepth 100000 in
set_option maxHeartbeats 1000000 in
theorem stFlush_any (h : StAt B w P D T M O s) (hof : s.d.off = false) : Calls Try.prog 31 #[.pointer (some ⟨P, 0, none⟩)] w fun e w' => e = .returned (.int .i64 0) ∧ StAt B w' P D T M O { s with d := s.d.settle fun _ => true } ∧ Off O w w' := by
  have H := Lib.hid h
  have HD := Lib.hid (dkFlush_any h.dk hof)
  have c9 := h.c9
  clear h hof
  go_enter Try.func31, Try.ntmps31
  go_wp2_with fail
  refine HD.out.mono ?_
  rintro _ w1 ⟨rfl, hd, ho⟩
  have HF : Hid (StAt B w1 P D T M O { s with d := s.d.settle fun _ => true } ∧ Off O w w1) := ⟨H.out.disk hd ho rfl rfl, ho⟩
  clear hd ho HD
  go_wp2
  go_ret
  exact ⟨rfl, HF.out⟩
set_option maxRecDepth 100000 in
set_option maxHeartbeats 1000000 in
theorem stSeal_any (h : StAt B w P D T M O s) (hof : s.d.off = false) : Calls Try.prog 32 #[.pointer (some ⟨P, 0, none⟩)] w fun e w' => e = .returned (.int .i64 0) ∧ StAt B w' P D T M O (StS.fill { s with d := s.d.settle fun _ => true }) ∧ Off (fun g => g = P ∨ g = M ∨ O g) w w' := by
  have HD := Lib.hid (stFlush_any h hof)
  clear h hof
  go_enter Try.func32, Try.ntmps32
  go_wp2_with fail
  refine HD.out.mono ?_
  rintro _ w1 ⟨rfl, hd, ho⟩
  have HO := Lib.hid ho
  have HFI := Lib.hid (stFill_any hd)
  clear hd ho HD
  go_wp2_with fail
  refine HFI.out.mono ?_
  rintro _ w2 ⟨rfl, hd, ho⟩
  have HF : Hid (StAt B w2 P D T M O (StS.fill { s with d := s.d.settle fun _ => true }) ∧ Off (fun g => g = P ∨ g = M ∨ O g) w w2) := ⟨hd, (HO.out.mono fun _ e => .inr (.inr e)).trans (ho.mono fun _ e => e.elim .inl fun e => .inr (.inl e))⟩
  clear hd ho HFI HO
  go_wp2
  go_ret
  exact ⟨rfl, HF.out⟩
end
end Go.Proofs.Ytlmgihnnphmmhaa
