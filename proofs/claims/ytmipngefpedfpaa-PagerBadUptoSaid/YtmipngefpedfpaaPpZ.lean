/- A pager: Copy, of a page that is not in the sink. -/
import Derived.Test.YtmipngefpedfpaaPoZ
namespace Go.Proofs.Ytmipngefpedfpaa
open Go.RowKit Go.Maps
set_option linter.unusedVariables false
set_option linter.unusedSimpArgs false

section
variable {σ : Type} {K : SnkF σ} {M : Snk K} {P : PSnk K} {w w' w1 w2 w3 w4 w5 : World} {d : PD} {t t' t1 t2 : PSt σ} {id : Int} {x y : Pg} {j : Nat} {z k1 k2 : Nat} {E : Int → Prop}
set_option maxRecDepth 100000 in
set_option maxHeartbeats 4000000 in
theorem copy_any (hK : K.Good) (hmi : P.Miss) (h : PgrAt M w d t) (hi : PI P d t) (h0 : t.hole = none) (hid : -9223372036854775808 ≤ id ∧ id ≤ 9223372036854775807) (hn : t.nx < 4611686018427387904) (hrd : K.Rdy t.s 1) :
    Calls Try.prog 14 #[.pointer (some ⟨d.Q, 0, none⟩), .int .i64 id] w (CpPost (M := M) P w d t id) := by
  by_cases hd : ∀ x, t.pm id = some x → x.put = true ∨ x.zero = true
  · exact copy_clean hK hmi h hi h0 hid hn hrd hd
  · have hlk := h.look hid
    rw [vis_none h0] at hlk
    have H := Lib.hid h
    have HI := Lib.hid hi
    have H0 := Lib.hid h0
    have HRD := Lib.hid hrd
    obtain ⟨hz1, hz2⟩ := h.zs
    have q4 := h.q4
    obtain ⟨x, hx, hpz⟩ : ∃ x, t.pm id = some x ∧ ¬ (x.put = true ∨ x.zero = true) := by
      cases hx : t.pm id with
      | none => exact absurd (fun x e => by rw [hx] at e; cases e) hd
      | some x => exact ⟨x, rfl, fun e => hd fun y hy => by rw [hx] at hy; cases hy; exact e⟩
    rw [hx] at hlk
    have HX := Lib.hid hx
    simp only [pgP, Option.map_some] at hlk
    have p1 := (h.pg id x hx).c1
    have p2 := (h.pg id x hx).c2
    have p3 := (h.pg id x hx).c3
    have p4 := (h.pg id x hx).c4
    have lX := (h.pg id x hx).lt
    clear hd
    · have hp : x.put = false := by cases h : x.put with | false => rfl | true => exact absurd (.inl h) hpz
      have hz : x.zero = false := by cases h : x.zero with | false => rfl | true => exact absurd (.inr h) hpz
      have HPK := Lib.hid (peek_any hK hmi h hx hi.inn)
      have HP := Lib.hid hp
      have HBB := Lib.hid (hi.dty id x hx hp hz)
      rw [hp] at p3
      rw [hz] at p4
      clear h hi h0 hx hrd hpz hp hz
      go_enter Try.func14, Try.ntmps14
      go_wp2_with fail
      refine HPK.out.mono ?_
      rintro e w1 ⟨s1, v, er, rfl, h1, ho, hs, ⟨L, hc, hl, rfl, B, c, rfl, hby, hB⟩ | ⟨hc, hbb, hz, rfl, rfl⟩⟩
      case inr => exact absurd hbb HBB.out
      obtain ⟨S1, E1⟩ := stp_sink (z := d.z) (E := none9) HI.out h1 ho hs
      have HRD1 := Lib.hid (hs.rdy 1 HRD.out)
      have HRM := Lib.hid hs.room
      have S := Lib.hid S1
      have E := Lib.hid E1
      have HC := Lib.hid hc
      have HL := Lib.hid hl
      have HBY := Lib.hid hby
      clear h1 ho hs hc hl hby S1 E1 q4 hlk p1 p2 p3 p4 lX HPK
      go_upto_region 10 with (fail)
      have hV := cp_virt hK H.out HI.out H0.out S.out hB HBY.out
      have HVV := Lib.hid hV.2
      refine wp_forget (fun V => Stp M P w V d t (cpV t s1 w1.heap.size) ∧ ByAt V d.z B c L) hV.1 ?_
      rintro V ⟨hs2, hby2⟩
      have S2 := Lib.hid hs2
      have HBY2 := Lib.hid hby2
      have q5 := hs2.at_.q5
      have HBR : Hid (Calls Try.prog 29 #[.pointer (some ⟨d.Q, 0, none⟩), .int .i64 (t.nx : Nat), .pointer (some ⟨w1.heap.size, 0, none⟩), .bool true] V (BrPost (M := M) P V d (cpV t s1 w1.heap.size) t.nx ⟨w1.heap.size, none, (0, 0), false, true, 0⟩)) :=
        Lib.hid (bring_any (id := (t.nx : Int)) (x := ⟨w1.heap.size, none, (0, 0), false, true, 0⟩) hK hmi hs2.at_ hs2.inv (updP_same _ _ _) (.inr ⟨rfl, show t.g t.nx = none from g_next HI.out H0.out⟩) (by omega) (by show t.nx < _; omega) HRD1.out true)
      have q5' : V.cell? ⟨d.Q, 5, none⟩ = some (.int .i64 (t.nx : Nat)) := q5
      clear hV hs2 hby2 q5 S HBY hB
      go_wp2_with fail
      refine HBR.out.mono ?_
      rintro e w3 ⟨t2, er, rfl, u1, u2, u3, ⟨rfl, ⟨B0, c0, L0, hx2, hc2, hl2⟩, j, hg2⟩ | ⟨rfl, hr, hg2⟩ | ⟨rfl, hc2, hg2⟩⟩
      · have hnn : t2.nx = t.nx := u3.nx
        have hhh : t2.hole = some (t.nx : Int) := u3.hole
        obtain ⟨g1, g2⟩ := own_by S2.out H.out HVV.out.1 HBY2.out u1 HVV.out.2.1 hz1
        have S3 := cp_lay (B := B) (c := c) (L := L) hK (S2.out.trans u1) hx2 (by simp) g1 g2 HVV.out.1 rfl
        have hE := cp_ev HX.out HP.out E.out HVV.out.2.2 u2
        have c0 := (u1.at_.pg _ _ hx2).c0
        have c4 := (u1.at_.pg _ _ hx2).c4
        have f0 := (u1.at_.pg _ _ hx2).fz 0
        have f4 := (u1.at_.pg _ _ hx2).fz 4
        unfold Pg.bv at c0
        simp only at c0 c4 f0 f4
        have HS3 := Lib.hid S3
        have HE := Lib.hid hE
        have HNN := Lib.hid (show t2.nx = t.nx ∧ t2.hole = some (t.nx : Int) ∧ t2.cm = t.cm from ⟨hnn, hhh, u3.cm⟩)
        clear u1 u2 u3 hx2 hc2 hl2 hg2 hnn hhh g1 g2 S3 hE q5' HBR HBY2
        go_upto_region 14 with (fail)
        refine wp_forget (fun W => Stp M P w W d t { t2 with pm := updP t2.pm t.nx (some { X := w1.heap.size, bb := some (B, c, L), at_ := (0, 0), put := false, zero := false, uses := 0 }) }) HS3.out ?_
        intro W hs4
        have HAD := Lib.hid (add_any (x := { X := w1.heap.size, bb := some (B, c, L), at_ := (0, 0), put := false, zero := false, uses := 0 }) hs4.at_ hs4.inv (by show t2.hole = some (t2.nx : Int); rw [HNN.out.1]; exact HNN.out.2.1) (by show updP t2.pm t.nx _ t2.nx = _; rw [HNN.out.1]; exact updP_same _ _ _) (by show t2.nx < _; rw [HNN.out.1]; exact hn))
        have HS4 := Lib.hid hs4
        clear hs4 HS3 c0 c4 f0 f4
        go_wp2_with fail
        refine HAD.out.mono ?_
        rintro e w5 ⟨_, he, hs5⟩
        have he' : e = .returned (.int .i64 (t.nx : Nat)) := by rw [he, ← HNN.out.1]
        subst he'
        have HS5 := Lib.hid hs5
        clear hs5 he HAD
        go_wp2
        go_ret2
        refine ⟨_, t.nx, 0, rfl, HS4.out.trans HS5.out, .inl ⟨rfl, rfl, x, { X := w1.heap.size, bb := some (B, c, L), at_ := (0, 0), put := false, zero := false, uses := 0 }, HX.out, ⟨ev_upd HE.out, updP_same _ _ _, by show t2.nx + 1 = _; rw [HNN.out.1], rfl, by show t2.cm + 1 = _; rw [HNN.out.2.2]⟩, rfl, fun L' hL' => ?_⟩⟩
        rw [HC.out] at hL'
        cases hL'
        rfl
      · have hF := cp_fail HX.out H.out HI.out H0.out E.out HVV.out.2.2 S2.out u1 u2 u3 hg2 HP.out
        have HF := Lib.hid hF
        have HR : Hid (P.room t.s = 0) := Lib.hid (by rw [← HRM.out]; exact hr)
        have he0 := P.ez0
        clear u1 u2 u3 hr hg2 hF q5' HBR HBY2
        go_wp2
        go_ret2
        obtain ⟨t3, v1, v2, v3⟩ := HF.out
        exact ⟨t3, 0, P.ez, rfl, v1, .inr ⟨v2, v3, rfl, .inr ⟨rfl, HR.out, by rw [HX.out]; simp⟩⟩⟩
      · exfalso
        unfold cont at hc2
        simp at hc2
end
end Go.Proofs.Ytmipngefpedfpaa
