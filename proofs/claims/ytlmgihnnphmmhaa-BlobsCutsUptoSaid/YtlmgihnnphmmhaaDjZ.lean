/- disk: settle behind a cut. UNDER WAY. -/
import Derived.Test.YtlmgihnnphmmhaaDiZ
namespace Go.Proofs.Ytlmgihnnphmmhaa
open Go.RowKit Go.Maps
set_option linter.unusedVariables false
set_option linter.unusedSimpArgs false

section
variable {B : Nat} {w : World} {D : Nat} {d : DkS} {O : Nat → Prop}
theorem SBl.off {w w' : World} {S : Nat → Prop} {A : Option Addr} {n : Nat} {F : List Bool} (h : SBl w A n F) (ho : Off S w w') (hs : 0 < n → ∀ g o, A = some ⟨g, o, none⟩ → ¬ S g) : SBl w' A n F := by
  refine ⟨h.1, fun hp => ?_⟩
  obtain ⟨b, o, rfl, hb, hc⟩ := h.2 hp
  exact ⟨b, o, rfl, Nat.lt_of_lt_of_le hb ho.size, fun k hk => (ho.cell (p := ⟨b, o + k, none⟩) hb (hs hp b o rfl)).trans (hc k hk)⟩
set_option maxRecDepth 100000 in
set_option maxHeartbeats 2000000 in
theorem dkSettleCut_any (h : DkAt B w D d O) {bx : Nat} {A : Option Addr} {n c : Nat} {F : List Bool} (hb : w.cell? ⟨bx, 0, none⟩ = some (.slice A n c)) (hF : SBl w A n F) (hbx : ¬ O bx) (hA : 0 < n → ∀ g o, A = some ⟨g, o, none⟩ → ¬ O g) : Calls Try.prog 69 #[.pointer (some ⟨D, 0, none⟩), .func (.func 70) #[] #[.pointer (some ⟨bx, 0, none⟩)]] w fun e w' => e = .returned (.tuple #[]) ∧ DkAt B w' D (d.settle (fun i => F.getD i false)) O ∧ Off O w w' := by
  obtain ⟨Kb, Mb, pv, P, kv, Da, hi, hO, hO2⟩ := h
  have HI := Lib.hid hi
  have HF1 : Hid (∀ w', Off (· = Kb) w w' → ∀ i : Nat, Calls Try.prog 70 #[.int .i64 (i : Nat), .pointer (some ⟨bx, 0, none⟩)] w' fun e w'' => e = .returned (.bool (F.getD i false)) ∧ w'' = w') := fun w' ho i => cut1_any w' ((ho.cell (p := ⟨bx, 0, none⟩) (lt_of_cell hb) (fun e => hbx (hO _ (.inl (.inr (.inl e)))))).trans hb) (hF.off ho fun hp g o e e2 => hA hp g o e (hO _ (.inl (.inr (.inl e2))))) i
  obtain ⟨pA, pc, hpv, hpl⟩ : ∃ pA pc, pv = .slice pA P.length pc ∧ P.length ≤ maxLen := by
    rcases hi.row.2 with ⟨hh, h0⟩ | ⟨g, cap, cur, hh, _, _, h1, h2, _⟩
    · exact ⟨_, _, by rw [hh, h0], by rw [h0]; exact Nat.zero_le _⟩
    · exact ⟨_, _, hh, by omega⟩
  unfold maxLen at hpl
  have c5 := hi.c5
  rw [hpv] at c5
  have HPV := Lib.hid hpv
  have HOO := Lib.hid hO
  have HO2 := Lib.hid hO2
  clear hi hpv hO hO2 hF hA hb hbx
  go_enter Try.func69, Try.ntmps69
  go_wp2_with fail
  go_loopw [11] (fun i wr => ∃ (j : Nat) (kv' : Nat → Value), j ≤ P.length ∧ i = .int .i64 (j : Nat) ∧ DkIn B wr D Kb Mb pv P kv' Da ⟨d.S, d.z, setl (fun i => F.getD i false) d.pend d.kept j, d.pend, d.off⟩ ∧ Off (· = Kb) w wr) (fun i _ => P.length - (intOf i).toNat)
  case atStart => exact ⟨0, kv, Nat.zero_le _, rfl, HI.out, Off.refl _ _⟩
  case round =>
    obtain ⟨j, kv', hj, rfl, hi, ho⟩ := hrel
    have HI2 := Lib.hid hi
    have HOF := Lib.hid ho
    by_cases hlt : j < P.length
    · obtain ⟨p, hp⟩ : ∃ p, P[j]? = some p := ⟨_, List.getElem?_eq_getElem hlt⟩
      obtain ⟨G, cap, hG, hcap, _⟩ := World.ownsRow.form hi.row (show 0 < P.length by omega)
      have k0 := World.ownsRow.cells hi.row (g := G) (by rw [hG]; rfl) (j * 2) _ (pcells_at _ j _ hp).1
      have k1 := World.ownsRow.cells hi.row (g := G) (by rw [hG]; rfl) (j * 2 + 1) _ (pcells_at _ j _ hp).2
      rw [show ∀ i, (⟨G, 0, none⟩ : Addr).add i = ⟨G, i, none⟩ from fun i => by unfold Addr.add; split <;> simp_all] at k0 k1
      have lG := (hi.lens.2.2.2 G (by rw [hG]; rfl)).2
      rw [HPV.out] at hG
      injection hG with e1 e2 e3
      subst e1
      obtain ⟨hps, hpb⟩ := hi.pb p (List.mem_of_getElem? hp)
      obtain ⟨pg, po, pcc, hpv2, _⟩ := hpb
      rw [hpv2] at k1
      have HP := Lib.hid hp
      have u0 : (j : Int) < (P.length : Int) := by omega
      clear hi ho hp e2 e3 hcap
      go_upto_region 3 with (fail)
      have hal : Below wr.heap.size wr (wr.alloc (.cells #[.int .i64 (p.1 : Nat), .slice (some ⟨pg, po, none⟩) d.z pcc] 111)) := (Below.refl _ _).alloc (Nat.le_refl _) _
      have b1 := heap_alloc_new wr (.cells #[.int .i64 (p.1 : Nat), .slice (some ⟨pg, po, none⟩) d.z pcc] 111)
      refine wp_forget (fun V => DkIn B V D Kb Mb pv P kv' Da ⟨d.S, d.z, setl (fun i => F.getD i false) d.pend d.kept j, d.pend, d.off⟩ ∧ Off (· = Kb) w V ∧ V.cell? ⟨wr.heap.size, 0, none⟩ = some (.int .i64 (p.1 : Nat)) ∧ V.cell? ⟨wr.heap.size, 1, none⟩ = some (.slice (some ⟨pg, po, none⟩) d.z pcc) ∧ wr.heap.size < V.heap.size)
        ⟨HI2.out.off (S := fun _ => False) (Off.of_below hal) (fun _ _ => id), HOF.out.trans ((Off.of_below (S := fun _ => False) hal).mono fun _ e => e.elim), by rw [cell_of_row _ _ _ _ _ _ b1]; rfl, by rw [cell_of_row _ _ _ _ _ _ b1]; rfl, by simp⟩ ?_
      clear hal b1 HI2 HOF k0 k1 lG
      rintro V ⟨hi, ho, b0, b1, lb⟩
      go_wp2_with fail
      refine (HF1.out _ ho _).mono ?_
      rintro _ V ⟨rfl, rfl⟩
      cases hfj : F.getD j false with
      | true =>
        have c4 := hi.c4
        simp only at c4
        obtain ⟨l1, l2, l3, l4⟩ := hi.lens
        have kc := hi.kc p.1 hps
        have kf := hi.kf p.1
        have hpb := (hi.pb p (List.mem_of_getElem? HP.out)).2
        rw [hpv2] at hpb
        obtain ⟨hi2, ho2⟩ := hi.setK hps hpb
        have hse : setl (fun i => F.getD i false) d.pend d.kept (j + 1) = setKept (setl (fun i => F.getD i false) d.pend d.kept j) p.1 p.2.1 := by
          have h1 : d.pend[j]? = some (p.1, p.2.1) := by
            have h2 := hi.pd
            simp only at h2
            rw [h2, List.getElem?_map, HP.out]
            rfl
          exact setl_step h1 hfj
        have HN : Hid (∀ w', Below (V.setCell ⟨Kb, p.1, none⟩ (.slice (some ⟨pg, po, none⟩) d.z pcc)).heap.size (V.setCell ⟨Kb, p.1, none⟩ (.slice (some ⟨pg, po, none⟩) d.z pcc)) w' → DkIn B w' D Kb Mb pv P (fun k => if k = p.1 then .slice (some ⟨pg, po, none⟩) d.z pcc else kv' k) Da ⟨d.S, d.z, setl (fun i => F.getD i false) d.pend d.kept (j + 1), d.pend, d.off⟩ ∧ Off (· = Kb) w w') := by
          rw [hse]
          intro w' hw'
          exact ⟨hi2.off (S := fun _ => False) (Off.of_below hw') (fun _ _ => id), (ho.trans ho2).trans ((Off.of_below (S := fun _ => False) hw').mono fun _ e => e.elim)⟩
        have i1 : (p.1 : Int) < (d.S : Int) := by omega
        clear hi ho hi2 ho2 hse hpb hpv2 HF1
        go_upto_region 4 with (fail)
        go_still_tail 9, (by kernel_rfl)
        go_wp2
        go_roundw
        case rel => exact ⟨j + 1, _, by omega, by go_num, HN.out _ ((Below.refl _ _).drew)⟩
        case measure => simp [intOf]; omega
      | false =>
        have h1 : d.pend[j]? = some (p.1, p.2.1) := by
          have h2 := hi.pd
          simp only at h2
          rw [h2, List.getElem?_map, HP.out]
          rfl
        have HN : Hid (DkIn B V D Kb Mb pv P kv' Da ⟨d.S, d.z, setl (fun i => F.getD i false) d.pend d.kept (j + 1), d.pend, d.off⟩ ∧ Off (· = Kb) w V) := by
          rw [setl_skip h1 hfj]
          exact ⟨hi, ho⟩
        clear hi ho h1 hpv2 HF1
        go_wp2
        go_roundw
        case rel => exact ⟨j + 1, _, by omega, by go_num, HN.out⟩
        case measure => simp [intOf]; omega
    · obtain rfl : j = P.length := by omega
      have hje : ¬ (P.length : Int) < (P.length : Int) := by omega
      obtain ⟨l1, l2, l3, l4⟩ := hi.lens
      obtain ⟨n1, n2, n3, n4⟩ := hi.ne
      have z5 := hi.zf 5
      have c5 := hi.c5
      have c6 := hi.c6
      obtain ⟨c, hc⟩ := hi.mp
      have h1 : Off (· = D) wr (wr.setCell ⟨D, 5, none⟩ (.slice none 0 0)) := (Off.refl (· = D) wr).setCell (p := ⟨D, 5, none⟩) rfl _
      obtain ⟨w2, hcl, hm, hoc⟩ := (hc.off h1 (fun e => n2 e.symm)).clr (t := 72) Try.underlying72 0
      obtain ⟨hs, hos⟩ := DkIn.settled hi hm hoc
      have hpd : d.pend.length = P.length := by
        have h2 := hi.pd
        simp only at h2
        rw [h2, List.length_map]
      have HF : Hid (DkAt B w2 D (d.settle fun i => F.getD i false) O ∧ Off O w w2) := by
        refine ⟨⟨Kb, Mb, .slice none 0 0, [], kv', Da, ?_, fun g hg => ?_, fun g hg => ⟨(HO2.out g hg).1, Nat.lt_of_lt_of_le (HO2.out g hg).2 (Nat.le_trans ho.size hos.size)⟩⟩, ?_⟩
        · unfold DkS.settle
          rw [hpd]
          exact hs
        · refine HOO.out g ?_
          rcases hg with (e | e | e | e) | e
          · exact .inl (.inl e)
          · exact .inl (.inr (.inl e))
          · exact .inl (.inr (.inr (.inl e)))
          · cases e
          · exact .inr e
        · refine (ho.mono fun g e => HOO.out g (.inl (.inr (.inl e)))).trans (hos.mono fun g e => HOO.out g (.inl (e.elim .inl fun e => .inr (.inr (.inl e)))))
      clear hi ho hm hoc hs hos hpd hc h1 HI2 HOF hlt HF1
      go_wp2
      go_end0
      exact ⟨rfl, HF.out⟩
end
end Go.Proofs.Ytlmgihnnphmmhaa
