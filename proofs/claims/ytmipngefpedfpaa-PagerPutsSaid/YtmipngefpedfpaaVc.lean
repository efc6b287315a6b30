/- known of almanaclaw14: a page that is put out of memory, and read again. -/
import Derived.Test.YtmipngefpedfpaaVb
import Derived.Lib.SlBytesConst
namespace Go.Proofs.Ytmipngefpedfpaa
open Go.RowKit Go.Maps
set_option linter.unusedVariables false
set_option linter.unusedSimpArgs false

section
variable {S : Nat} {w0 w w' w1 w2 : World} {d : PD} {t t' t1 t2 : PSt ShS} {C C' : Cn} {R : Prop} {k k1 k2 : Nat} {id : Int} {E : Int → Prop} {o : Option Bytes} {b : Bytes}
theorem vw_new {z n : Nat} {e : Ending} (hs : ShNew w e w1) (hp : Pg0 (shM w.heap.size) shP w1 w2 z n (· = w.heap.size) sh0 d t) : Vw w.heap.size w w2 d t (fun _ => none) True 1000000 := by
  refine ⟨hp.at_, hp.inv, fun b hb => ?_, hs.2.1.trans (hp.bel.mono hs.2.1.size), hp.hole, (fun i _ => by rw [hp.pm]), (fun i b h => by cases h), (fun _ => by rw [hp.s]; show (-1 : Int) < 0; omega), by rw [hp.s]; exact sh0_rdy (by omega), by rw [hp.nx]; omega, (fun i o h => by cases h)⟩
  rcases hb with e | e
  · have := hp.own b e
    have := hs.2.1.size
    omega
  · rw [hp.O] at e
    exact Nat.le_of_eq e.symm
theorem shNew_in {e : Ending} (hs : ShNew w e w1) : (shM w.heap.size).At w1 (· = w.heap.size) sh0 ∧ shP.In sh0 := ⟨hs.2.2.2, by show (-1 : Int) < 0; omega⟩
/-- Pages' used frames. -/
theorem held_le (h : Vw S w0 w d t C R k) : cntF qUsed t.F d.n ≤ d.n := cntF_le _ _ _
theorem fresh_no (h : Vw S w0 w d t C R k) {b : Nat} (hb : w.heap.size ≤ b) : ¬ Own d t b := fun e => by have := h.lt e; omega
theorem sby_row (w : World) (xs : Array Value) (L : Bytes) (T : TypeId) (fr : Nat × Nat) (h : xs.toList = L.map bv) : SBy (w.alloc (.cells xs T fr)) (some ⟨w.heap.size, 0, none⟩) L.length L := by
  refine ⟨rfl, fun hp => ⟨w.heap.size, 0, rfl, by simp, fun k hk => ?_⟩⟩
  rw [Nat.zero_add, cell_of_row _ _ _ _ _ _ (heap_alloc_new w _), ← Array.getElem?_toList, h, List.getElem?_map, List.getElem?_eq_getElem hk, at8_get hk]
  rfl
theorem kc (w : World) (C : Array Value) (n c : Nat) : (convert 22 22 (.slice (some ⟨w.heap.size, 0, none⟩) n c)).run Try.prog (w.alloc (.cells C 5)) = .ok (.slice (some ⟨w.heap.size, 0, none⟩) n c) (w.alloc (.cells C 5 (C.size, C.size + 1))) :=
  Lib.run_convert_bytes_const (P := Try.prog) w 22 5 C n c Try.underlying22 Try.underlying5
theorem vin_new (h : Vw S w0 w d t C R k) {b o n c : Nat} (hb : w.heap.size ≤ b) : VIn (fun k => ¬ Own d t k) (.slice (some ⟨b, o, none⟩) n c) := fun b' o' n' c' e _ => by cases e; exact fresh_no h hb
end
set_option maxRecDepth 100000 in
set_option maxHeartbeats 4000000 in
theorem known_any (w : World) : Calls Try.prog 8 #[] w fun e w' => e = .returned (.bool true) ∧ Below w.heap.size w w' := by
  go_enter Try.func8, Try.ntmps8
  go_wp2_with fail
  refine (newShelf_any w).mono ?_
  rintro e w1 hs
  have HS := Lib.hid hs
  have he := hs.1
  subst he
  have HN := Lib.hid (pgNew_any (M := shM w.heap.size) (P := shP) 16 1 (shNew_in hs).1 (shNew_in hs).2)
  clear hs
  go_wp2_with fail
  refine HN.out.mono ?_
  rintro e w2 (⟨_, _, hbad⟩ | ⟨d, t, rfl, _, hp⟩)
  · omega
  have hv := vw_new HS.out hp
  have HV := Lib.hid hv
  have HP := Lib.hid (show d.z = 16 ∧ d.n = 1 ∧ t.nx = 1 ∧ t.cm = 0 from ⟨hp.z, hp.n, hp.nx, hp.cm⟩)
  clear hp HN
  generalize w.heap.size = S at *
  have HM := Lib.hid (vw_make (k := 999999) hv)
  rw [show ((t.nx : Nat) : Int) = 1 by have := HP.out.2.2.1; omega] at HM
  clear hv
  go_wp2_with fail
  refine HM.out.mono ?_
  rintro e w3 ⟨rfl, t3, hv3, hn3, hx3, hc3, _⟩
  have HV3 := Lib.hid hv3
  have HN3 := Lib.hid (show t3.nx = 2 ∧ t3.cm = 1 by have := HP.out; omega)
  clear hv3 hn3 hx3 hc3 HM
  have k3 := kc w3 #[.int .u8 120, .int .u8 121] 2 2
  have hb3 : Below w3.heap.size w3 (w3.alloc (.cells #[.int .u8 120, .int .u8 121] 5 (2, 3))) := (Below.refl _ _).alloc (Nat.le_refl _) _
  have HW := Lib.hid (vw_write (id := 1) (b := zeros 16) (by_ := [120, 121]) (off := 3) (k := 999998) (cb := 2) (HV3.out.up hb3) trivial (by rw [show (1 : Int) = ((t.nx : Nat) : Int) by have := HP.out.2.2.1; omega, updC_same, HP.out.1]) (sby_row w3 #[.int .u8 120, .int .u8 121] [120, 121] _ _ rfl) (by rw [HP.out.1]; decide) (vin_new HV3.out (Nat.le_refl _)))
  clear hb3
  go_wp2_with fail
  refine HW.out.mono ?_
  rintro e w4 ⟨rfl, t4, hv4, _, _, hn4⟩
  have HV4 := Lib.hid hv4
  have HN4 := Lib.hid (show t4.nx = 2 ∧ t4.cm = 1 by have := HN3.out; have := hn4.nx; have := hn4.cm; omega)
  have HM2 := Lib.hid (vw_make (k := 999997) hv4)
  rw [show ((t4.nx : Nat) : Int) = 2 by have := HN4.out.1; omega] at HM2
  clear hv4 hn4 HW k3
  go_wp2_with fail
  refine HM2.out.mono ?_
  rintro e w5 ⟨rfl, t5, hv5, _, hx5, hc5, _⟩
  have HV5 := Lib.hid hv5
  have HN5 := Lib.hid (show t5.nx = 3 ∧ t5.cm = 2 by have := HN4.out; omega)
  have k5 := kc w5 #[.int .u8 122] 1 1
  have hb5 : Below w5.heap.size w5 (w5.alloc (.cells #[.int .u8 122] 5 (1, 2))) := (Below.refl _ _).alloc (Nat.le_refl _) _
  have HW := Lib.hid (vw_write (id := 2) (b := zeros 16) (by_ := [122]) (off := 0) (k := 999996) (cb := 1) (HV5.out.up hb5) trivial (by rw [updC_same, HP.out.1]) (sby_row w5 #[.int .u8 122] [122] _ _ rfl) (by rw [HP.out.1]; decide) (vin_new HV5.out (Nat.le_refl _)))
  clear hv5 hx5 hc5 HM2 hb5
  go_wp2_with fail
  refine HW.out.mono ?_
  rintro e w6 ⟨rfl, t6, hv6, _, _, hn6⟩
  have HV6 := Lib.hid hv6
  have HN6 := Lib.hid (show t6.nx = 3 ∧ t6.cm = 2 by have := HN5.out; have := hn6.nx; have := hn6.cm; omega)
  have HR := Lib.hid (vw_read (id := 1) (b := setB (zeros 16) 3 [120, 121]) (off := 2) (n := 4) (k := 999995) hv6 trivial (by rw [updC_ne _ _ (by omega), updC_ne _ _ (by omega)]; rw [show (1 : Int) = ((t.nx : Nat) : Int) by have := HP.out.2.2.1; omega]; exact updC_same _ _ _) (by rw [HP.out.1]; decide))
  clear hv6 hn6 HW k5
  go_wp2_with fail
  refine HR.out.mono ?_
  rintro e w7 ⟨t7, A, c, rfl, hv7, _, _, hn7, hs7, _⟩
  have HV7 := Lib.hid hv7
  have HN7 := Lib.hid (show t7.nx = 3 ∧ t7.cm = 2 by have := HN6.out; have := hn7.nx; have := hn7.cm; omega)
  obtain ⟨A', n', c', e1, _, hsb⟩ := hs7
  cases e1
  have hstr : (convert 22 9 (.slice A 4 c)).run Try.prog w7 = .ok (.string ⟨#[0, 120, 121, 0]⟩) w7 := hsb.str c
  have hH := held_any hv7.at_
  have hle := held_le hv7
  rw [HP.out.2.1] at hle
  rw [HP.out.2.1] at hH
  have hle2 : ((cntF qUsed t7.F 1 : Nat) : Int) ≤ 1 := by omega
  have hPg : Hid (∀ W, Below w7.heap.size w7 W → Calls Try.prog 20 #[.pointer (some ⟨d.Q, 0, none⟩)] W fun e w' => e = .returned (.int .i64 2) ∧ W = w') := Lib.hid fun W hb => (pages_any (hv7.up hb).at_).mono fun e w' h => ⟨by rw [h.1, HN7.out.2]; rfl, h.2⟩
  have HB7 := Lib.hid hv7.bel
  have HH := Lib.hid hH
  clear hv7 hn7 hsb hH HR
  go_wp2_with fail
  refine HH.out.mono ?_
  rintro e w8 ⟨rfl, hb8⟩
  have HB8 := Lib.hid hb8
  clear hb8
  go_wp2_with fail
  refine (hPg.out _ HB8.out).mono ?_
  rintro e w9 ⟨rfl, rfl⟩
  go_wp2
  go_ret
  exact ⟨rfl, HB7.out.trans (HB8.out.mono HB7.out.size)⟩
end Go.Proofs.Ytmipngefpedfpaa
