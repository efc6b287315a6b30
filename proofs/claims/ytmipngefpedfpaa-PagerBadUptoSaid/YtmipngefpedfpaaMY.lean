/- more of the world of almanaclaw14. The shelf as the law asks it; an act's box. -/
import Derived.Test.YtmipngefpedfpaaMX
namespace Go.Proofs.Ytmipngefpedfpaa
open Go.RowKit Go.Maps
set_option linter.unusedVariables false
set_option linter.unusedSimpArgs false

theorem run_appRB {B : Nat} {w : World} {rv : Value} {n0 : Nat} {vs : List Value} {g : Nat} {A : Option Addr} {n c : Nat} (hown : w.ownsRow B 22 1 rv n0 vs) (hc : w.cell? ⟨g, 0, none⟩ = some (.slice A n c)) (hB : B ≤ w.heap.size) (hlen : n0 ≤ 1048576) (ty : TypeId) :
    ∃ v' w', (Builtin.append_ #[43, 43] ty #[rv, .slice (some ⟨g, 0, none⟩) 1 1]).run Try.prog w = .ok v' w' ∧ w'.ownsRow B 22 1 v' (n0 + 1) (vs ++ [Value.slice A n c]) ∧ w.grownBy w' rv.ownBlock ∧ (v'.ownBlock = rv.ownBlock ∨ v'.ownBlock = some w.heap.size) := by
  obtain ⟨i0, hi, hz0, hz1, hz2⟩ := info_parts by_info
  obtain ⟨v', w', hr, ho, hg, _, hat⟩ := run_append_own_at (P := Try.prog) w B 43 ty 22 i0 _ 1 24 Try.underlying43 hi hz0 hz1 hz2 rfl (by omega) rv n0 vs hown ⟨g, 0, none⟩ 1 1 [.slice A n c]
    rfl (fun j u hj => by
      have e : ∀ j, (⟨g, 0, none⟩ : Addr).add j = ⟨g, j, none⟩ := fun j => by unfold Addr.add; split <;> simp_all
      rw [e]
      match j, hj with
      | 0, hj => simp at hj; rw [hc, hj]) (fun u hu => by
      simp only [List.mem_singleton] at hu
      subst hu
      simp [Value.oneCell']) (by unfold maxLen; omega) (by omega) hB
  exact ⟨v', w', hr, ho, hg, hat⟩
theorem step_appRB {ops : Array Oper} {o : Oper} {a : Act} {w : World} {K : Act → World → Prop} {Q : Exit → Act → World → Prop} {E : Prop} (hgd : o.guard = none) (sl x : Operand)
    (ho : o.op = .call { callee := .builtin .append, args := #[sl, x], argTypes := #[43, 43] }) (B : Nat) (rv : Value) (n0 : Nat) (vs : List Value) (g : Nat) (A : Option Addr) (n c : Nat) (hs : a.eval sl = rv) (hown : w.ownsRow B 22 1 rv n0 vs) (hx : a.eval x = .slice (some ⟨g, 0, none⟩) 1 1)
    (hc : w.cell? ⟨g, 0, none⟩ = some (.slice A n c)) (hB : B ≤ w.heap.size) (hlen : n0 ≤ 1048576)
    (h : ∀ v' w', w'.ownsRow B 22 1 v' (n0 + 1) (vs ++ [Value.slice A n c]) → w.grownBy w' rv.ownBlock → (v'.ownBlock = rv.ownBlock ∨ v'.ownBlock = some w.heap.size) → K (a.put o.dst v') w') :
    if Region.wanted o (yielded ops a.tmps) = true then Oper.wp Try.prog o a w K Q else E := by
  have hw : Region.wanted o (yielded ops a.tmps) = true := by simp [Region.wanted, hgd]
  rw [if_pos hw]
  obtain ⟨v', w', hr, h1, h2, h3⟩ := run_appRB hown hc hB hlen o.type
  unfold Oper.wp execOp
  simp only [ho, resolve, invoke, builtin, Sem.run_bind, Sem.run_pure, Result.andThen_ok, List.map_toArray, List.map_cons, List.map_nil, hs, hx, hr]
  exact h v' w' h1 h2 h3
theorem row_form {B sz : Nat} {w : World} {v : Value} {t : TypeId} {n : Nat} {xs : List Value} (h : w.ownsRow B t sz v n xs) : ∃ A n c, v = .slice A n c := by
  rcases h.2 with ⟨rfl, _⟩ | ⟨g, cap, cur, rfl, _⟩
  · exact ⟨_, _, _, rfl⟩
  · exact ⟨_, _, _, rfl⟩
theorem frb_by {w0 w : World} {A : Option Addr} {n c : Nat} {L : Bytes} (h : FrB w0 w (.slice A n c) L) (hn : 0 < n) : ∃ b, A = some ⟨b, 0, none⟩ ∧ ByAt w n b c L ∧ w0.heap.size ≤ b := by
  obtain ⟨b2, hb2⟩ : ∃ b2, A = some ⟨b2, 0, none⟩ := by
    obtain ⟨b2, o2, hA', _, _⟩ := h.sby.2 hn
    obtain ⟨A2, c2, e, _, _, _, hz0⟩ := h.own.form
    injection e with e1 e2 e3
    obtain ⟨_, _, rfl⟩ := hz0 b2 o2 (e1.symm.trans hA')
    exact ⟨b2, hA'⟩
  subst hb2
  obtain ⟨b3, c3, e, h1, h2⟩ := h.fresh (w0 := w0) hn (Nat.le_refl _)
  cases e
  exact ⟨b2, rfl, h1, h2⟩
section
variable {w0 w w' w1 w2 : World} {Wb S : Nat} {d : PD} {t t' t1 t2 : PSt ShS} {R : Prop} {k k1 : Nat} {vi vb : Value} {xs : List Pe} {is : List Int} {C : Cn}
/-- The list of numbers grows. -/
theorem WL.growI (h : WL w0 w Wb S d t vi vb is xs) (hO : ∀ b, Own d t b → b < w.heap.size) (h0 : w0.heap.size ≤ w.heap.size) (id : Int) (hf : is.length < 1000) :
    ∃ vi' w1, (∃ A' c', vi' = .slice A' (is.length + 1) c') ∧ (∀ ty, (Builtin.append_ #[38, 38] ty #[vi, .slice (some ⟨w.heap.size, 0, none⟩) 1 1]).run Try.prog (w.alloc (.cells #[.int .i64 id] 3)) = .ok vi' w1) ∧ WL w0 (w1.setCell ⟨Wb, 4, none⟩ vi') Wb S d t vi' vb (is ++ [id]) xs ∧ Off (fun b => b = Wb ∨ vi.ownBlock = some b) w (w1.setCell ⟨Wb, 4, none⟩ vi') ∧ w1.cell? ⟨Wb, 4, none⟩ = some vi ∧ w1.frozen? ⟨Wb, 4, none⟩ = false := by
  have hba : Below w.heap.size w (w.alloc (.cells #[.int .i64 id] 3)) := (Below.refl _ _).alloc (Nat.le_refl _) _
  obtain ⟨vi', w1, hr, hrow, hg, hat⟩ := run_appI (g := w.heap.size) (i := id) (h.ri.up hba) (alloc_at w _ _).1 (Nat.le_trans h0 hba.size) (by omega) 38
  have ho : Off (fun b => vi.ownBlock = some b) w w1 := (Off.of_below hba).trans (grown_off hg)
  have hW : ¬ vi.ownBlock = some Wb := fun e => h.niW Wb e rfl
  obtain ⟨g1, g2⟩ := h.setI hO h0 ho hrow (fun g e => by
    rcases hat with e2 | e2
    · exact .inl (by rw [← e2]; exact e)
    · rw [e2] at e
      cases e
      exact .inr hba.size) (by simp; omega)
  refine ⟨vi', w1, ?_, fun ty => hr, g1, g2, ?_, ?_⟩
  · obtain ⟨A', c', e, _⟩ := hrow.form
    rw [List.length_append] at e
    exact ⟨A', c', e⟩
  · exact (ho.cell (p := ⟨Wb, 4, none⟩) h.ltW hW).trans h.c4
  · exact (ho.frozen (p := ⟨Wb, 4, none⟩) h.ltW hW).trans (h.fz 4)
/-- What more leaves. -/
def MoPost (w0 w : World) (Wb S : Nat) (d : PD) (t : PSt ShS) (R : Prop) (k : Nat) (xs : List Pe) (id : Int) (b : Bytes) (e : Ending) (w' : World) : Prop :=
  e = .returned (.bool true) ∧ ∃ vi' vb' B c, WA w0 w' Wb S d t R k vi' vb' (xs ++ [⟨id, B, c, b⟩])
theorem mo_done {id : Int} {b : Bytes} (hv : Vw S w0 w d t (updC (CnX xs) id (some (some b))) R k) (hl : WL w0 w Wb S d t vi vb (xs.map Pe.id ++ [id]) xs) (hup : xs.Pairwise fun x y => x.id < y.id) (hlt : ∀ x ∈ xs, x.id < id) (hcm : t.cm = xs.length + 1) (hf : xs.length < 1000) {b2 c2 : Nat} {w4 : World} {vb' : Value}
    (ho : Off (fun b => vb.ownBlock = some b) w w4) (hz : b.length = d.z) (hrow : w4.ownsRow w0.heap.size 22 1 vb' (xs.length + 1) (xs.map Pe.v ++ [.slice (some ⟨b2, 0, none⟩) b.length c2])) (hby : ByAt w4 d.z b2 c2 b) (hb2 : w.heap.size ≤ b2) (hne : vb'.ownBlock ≠ some b2) (hat : ∀ g, vb'.ownBlock = some g → vb.ownBlock = some g ∨ w.heap.size ≤ g) :
    MoPost w0 w Wb S d t R k xs id b (.returned (.bool true)) (w4.setCell ⟨Wb, 5, none⟩ vb') := by
  obtain ⟨g1, g2⟩ := hl.setB (xs' := xs ++ [⟨id, b2, c2, b⟩]) (fun b hb => hv.lt hb) hv.bel.size ho (by rw [List.length_append, List.map_append]; exact hrow) hat (by simp; omega) (fun x hx => by
    rcases List.mem_append.1 hx with e | e
    · exact .inl e
    · rw [List.mem_singleton] at e
      subst e
      exact .inr ⟨hb2, hby, hne⟩) (by
    rw [List.pairwise_append]
    refine ⟨hl.nxx, by simp, fun x hx y hy => ?_⟩
    rw [List.mem_singleton] at hy
    subst hy
    have := (hl.by_ x hx).lt hl.z16.1
    show x.B ≠ b2
    omega)
  refine ⟨rfl, vi, vb', b2, c2, ⟨?_, by rw [List.map_append]; exact g1, ?_, by rw [hcm]; simp⟩⟩
  · rw [CnX_more (x := ⟨id, b2, c2, b⟩) hlt]
    exact hv.offL g2 (fun b hb => by
      rcases hb with e | e
      · exact (hl.out b (.inl e)).1
      · exact (hl.out b (.inr (.inr (.inl e)))).1) (fun b hb => by
      rcases hb with e | e
      · exact (hl.out b (.inl e)).2
      · exact (hl.out b (.inr (.inr (.inl e)))).2)
  · rw [List.pairwise_append]
    refine ⟨hup, by simp, fun x hx y hy => ?_⟩
    rw [List.mem_singleton] at hy
    subst hy
    exact hlt x hx
set_option maxRecDepth 100000 in
set_option maxHeartbeats 8000000 in
theorem more_any {id : Int} {b : Bytes} {A : Option Addr} {n c : Nat} (hv : Vw S w0 w d t (updC (CnX xs) id (some (some b))) R k) (hl : WL w0 w Wb S d t vi vb (xs.map Pe.id) xs) (hup : xs.Pairwise fun x y => x.id < y.id) (hlt : ∀ x ∈ xs, x.id < id) (hcm : t.cm = xs.length + 1) (hf : xs.length < 1000) (hS : SBy w A n b) (hz : n = d.z) (hA : VIn (fun k => k ≠ Wb ∧ vi.ownBlock ≠ some k) (.slice A n c)) :
    Calls Try.prog 39 #[.pointer (some ⟨Wb, 0, none⟩), .int .i64 id, .slice A n c] w (MoPost w0 w Wb S d t R k xs id b) := by
  obtain ⟨Ai, ci, rfl, _, hI⟩ := hl.formI
  have q4 := hl.c4
  have lW := hl.ltW
  have f4 := hl.fz 4
  have hci : ∀ q : Nat, q < xs.length → ∃ g, Ai = some ⟨g, 0, none⟩ ∧ g < w.heap.size ∧ ∃ y : Int, y < id ∧ w.cell? ⟨g, q, none⟩ = some (.int .i64 y) := fun q hq => by
    obtain ⟨g, e, _, h2, h3⟩ := hI (by omega)
    obtain ⟨x, hx⟩ : ∃ x, xs[q]? = some x := ⟨_, List.getElem?_eq_getElem hq⟩
    exact ⟨g, e, h2, x.id, hlt x (List.mem_of_getElem? hx), h3 q x hx⟩
  obtain ⟨vi', w1, ⟨Av, cv, rfl⟩, hr, hl1, ho1, q41, f41⟩ := hl.growI (fun b hb => hv.lt hb) hv.bel.size id (by rw [List.length_map]; omega)
  rw [List.length_map] at hl1 ho1 hr
  have HCI := Lib.hid hci
  have HV := Lib.hid hv
  have HL := Lib.hid hl
  have HL1 := Lib.hid hl1
  have HO1 := Lib.hid ho1
  have HUP := Lib.hid hup
  have HLT := Lib.hid hlt
  have HCM := Lib.hid hcm
  have HS := Lib.hid hS
  have HZ := Lib.hid hz
  have HA := Lib.hid hA
  clear hci hv hl hl1 ho1 hup hlt hcm hS hz hA hI
  go_enter Try.func39, Try.ntmps39
  go_wp2
  go_loop [7] (fun iv => ∃ j : Nat, j ≤ xs.length ∧ iv = .int .i64 (j : Nat)) (fun iv => xs.length - (intOf iv).toNat)
  case atStart => exact ⟨0, Nat.zero_le _, rfl⟩
  case round =>
    obtain ⟨j, hj, rfl⟩ := hrel
    by_cases hjl : j < xs.length
    · obtain ⟨g, rfl, hlg, y, hy, hcy⟩ := HCI.out j hjl
      have hjI : (j : Int) < (xs.length : Int) := by omega
      have hy2 : ¬ id ≤ y := by omega
      clear hr
      go_wp2
      go_round
      case rel => exact ⟨j + 1, by omega, by go_num⟩
      case measure => simp [intOf]; omega
    · go_upto_region 7 with (at_builtin; go_must (refine wpList_append_run rfl (.tmp 30) (.tmp 32) 38 rfl _ _ rfl rfl (hr _) ?_))
      have hVS : SBy (w1.setCell ⟨Wb, 4, none⟩ (.slice Av (xs.length + 1) cv)) A n b := by
        refine HS.out.off HO1.out (fun b' o e hb => ?_)
        subst e
        have := HA.out b' o n c rfl (by have := HZ.out; have := HL.out.z16.1; omega)
        rcases hb with e | e
        · exact this.1 e
        · exact this.2 e
      have hvV : Vw S w0 (w1.setCell ⟨Wb, 4, none⟩ (.slice Av (xs.length + 1) cv)) d t (updC (CnX xs) id (some (some b))) R k := HV.out.offL HO1.out (fun b hb => by
        rcases hb with e | e
        · exact (HL.out.out b (.inl e)).1
        · exact (HL.out.out b (.inr (.inl e))).1) (fun b hb => by
        rcases hb with e | e
        · exact (HL.out.out b (.inl e)).2
        · exact (HL.out.out b (.inr (.inl e))).2)
      refine wp_forget (fun V => (WL w0 V Wb S d t (.slice Av (xs.length + 1) cv) vb (xs.map Pe.id ++ [id]) xs ∧ SBy V A n b) ∧ Vw S w0 V d t (updC (CnX xs) id (some (some b))) R k) ⟨⟨HL1.out, hVS⟩, hvV⟩ ?_
      rintro V ⟨⟨hlV, hsV⟩, hvV'⟩
      obtain ⟨A5, c5, e5, _, _⟩ := hlV.formB
      have q5 := hlV.c5
      have f5 := hlV.fz 5
      have lW5 := hlV.ltW
      rw [e5] at q5
      have hz16 := hlV.z16
      have hnz := HZ.out
      have HN := Lib.hid (show n = b.length by have := HS.out.1; omega)
      have hn40 : n ≤ 4096 := by omega
      have hn16 : 16 ≤ n := by omega
      have h0V : w0.heap.size ≤ V.heap.size := hvV'.bel.size
      have hrbV := hlV.rb
      rw [e5] at hrbV
      have HRB := Lib.hid hrbV
      have HLV := Lib.hid hlV
      have HSV := Lib.hid hsV
      have HVV := Lib.hid hvV'
      have HE5 := Lib.hid e5
      have HNW : Hid (¬ Value.ownBlock (.slice A5 xs.length c5) = some Wb) := Lib.hid (fun e => by rw [← e5] at e; exact hlV.nbW Wb e rfl)
      clear hVS hvV hlV hsV hvV' hrbV e5 hnz q4 f4 q41 f41 hr HCI hj hjl
      go_region_law (first
        | (refine step_appF (by rfl) _ _ (by rfl) V _ [] b (by rfl) (FrB.lit V).drew _ _ _ (by rfl) (HSV.out.up (((Below.refl _ _).alloc (Nat.le_refl _) _).drew)) (by simp; omega) n (by rw [List.nil_append]; exact HN.out) ?_; intro A2 c2 w2 hf2; have HF2 := Lib.hid hf2; have q52 := (hf2.bel.cell (p := ⟨Wb, 5, none⟩) lW5).trans q5; have l2 := Nat.lt_of_lt_of_le lW5 hf2.bel.size; clear hf2)
        | (refine step_appRB (by rfl) _ _ (by rfl) w0.heap.size _ xs.length (xs.map Pe.v) w2.heap.size A2 n c2 (by rfl) (rowN_off (rowN_off HRB.out (S := fun _ => False) (Off.of_below HF2.out.bel) (fun _ _ e => e)) (S := fun _ => False) (Off.of_below ((Below.refl _ _).alloc (Nat.le_refl _) _)) (fun _ _ e => e)) (by rfl) (by rw [cell_of_row _ _ _ _ _ _ (heap_alloc_new w2 _)]; rfl) (by simp; have := HF2.out.bel.size; omega) (by omega) ?_; intro v4 w4 hrow hg hat; obtain ⟨A4, n4, c4, rfl⟩ := row_form hrow; have HROW := Lib.hid hrow; have HGR := Lib.hid hg; have HAT := Lib.hid hat; have q54 := ((grown_off hg).cell (p := ⟨Wb, 5, none⟩) (by simp; omega) HNW.out).trans ((((Below.refl w2.heap.size w2).alloc (Nat.le_refl _) _).cell (p := ⟨Wb, 5, none⟩) l2).trans q52); have f54 := ((grown_off hg).frozen (p := ⟨Wb, 5, none⟩) (by simp; omega) HNW.out).trans ((((Below.refl w2.heap.size w2).alloc (Nat.le_refl _) _).frozen (p := ⟨Wb, 5, none⟩) l2).trans ((HF2.out.bel.frozen (p := ⟨Wb, 5, none⟩) lW5).trans f5)); clear hrow hg hat))
      all_goals
        obtain ⟨b2, rfl, hby2, hb2⟩ := frb_by HF2.out (by omega)
        have HG : Hid (MoPost w0 w Wb S d t R k xs id b (.returned (.bool true)) (w4.setCell ⟨Wb, 5, none⟩ (.slice A4 n4 c4))) := by
          have hb4 : Below w2.heap.size w2 (w2.alloc (.cells #[.slice (some ⟨b2, 0, none⟩) n c2] 22)) := (Below.refl _ _).alloc (Nat.le_refl _) _
          have hgo := grown_off HGR.out
          have ho4 : Off (fun b => vb.ownBlock = some b) V w4 := by
            rw [HE5.out]
            exact ((Off.of_below HF2.out.bel).step hb4).trans hgo
          have hne5 : ∀ g, Value.ownBlock (.slice A5 xs.length c5) = some g → g < V.heap.size := fun g e => (World.ownsRow.lt HRB.out g e).2
          have hlt2 := hby2.lt (by omega)
          refine Lib.hid (mo_done HVV.out HLV.out HUP.out HLT.out HCM.out hf ho4 (by rw [← HN.out]; exact HZ.out) (b2 := b2) (c2 := c2) (by rw [← HN.out]; exact HROW.out) (by
            rw [← HZ.out]
            exact (hby2.off (S := fun _ => False) (by omega) (Off.of_below hb4) (fun e => e)).off (by omega) hgo (fun e => by have := hne5 _ e; omega)) hb2 (fun e => ?_) (fun g e => ?_))
          · rcases HAT.out with e2 | e2
            · rw [e2] at e; have := hne5 _ e; omega
            · rw [e2] at e; simp at e; omega
          · rcases HAT.out with e2 | e2
            · rw [e2] at e; rw [HE5.out]; exact .inl e
            · rw [e2] at e
              cases e
              exact .inr (by have := HF2.out.bel.size; simp; omega)
        clear hby2 hb2 q5 f5 q52 q54 f54 HF2 HROW HGR HAT
        go_wp2
        go_ret
        exact HG.out
end
end Go.Proofs.Ytmipngefpedfpaa
namespace Go.Proofs.Ytmipngefpedfpaa
open Go.RowKit Go.Maps
set_option linter.unusedVariables false
set_option linter.unusedSimpArgs false

section
variable {S : Nat} {w0 w w' w1 w2 : World} {d : PD} {t t' t1 t2 : PSt ShS} {C C' : Cn} {R : Prop} {k k1 k2 : Nat} {id : Int} {E : Int → Prop} {o : Option Bytes} {b : Bytes}
theorem vw_shPut (h : Vw S w0 w d t C R (k + 1)) (hfull : t.s.full < 0) {A : Option Addr} {n c : Nat} (hS : SlA w (.slice A n c) b) (hl : b.length ≤ 5000) : Calls Try.prog 23 #[.pointer (some ⟨S, 0, none⟩), .slice A n c] w fun e w' =>
    ∃ (t' : PSt ShS) (a : Int × Int), e = .returned (.tuple #[addrV a, .int .i64 0]) ∧ Vw S w0 w' d t' C R k ∧ Nx S w w' d t t' ∧ Nm d t t' ∧ t'.pm = t.pm ∧ shP.rd t'.s a = some b ∧ SubR (shP.rd t.s) (shP.rd t'.s) ∧ t'.s.L.length = t.s.L.length + 1 ∧ t'.s.full < 0 := by
  refine ((shM S).put h.at_.at_ (h.at1 (by omega)) hS hl).mono ?_
  rintro e w' ⟨O', he, ha, ho, hO⟩
  obtain ⟨p1, p2, p3, p4, p5, p6, p7⟩ := shP.put t.s b h.inv.inn (h.at1 (by omega)) hl (by show t.s.full ≠ 0; omega)
  obtain ⟨g1, g2⟩ := h.sink (k1 := k) ha ho hO p2 p5 (fun r => by rw [p7]; have := h.room r; rw [if_neg (by omega)]; exact this) (shK_good.putR _ _ _ (shK_good.mono _ _ _ h.rdy (Nat.le_refl _)) hl) (by omega)
  refine ⟨_, _, ?_, g1, g2, ⟨rfl, rfl⟩, rfl, p3, p5, p6, ?_⟩
  · rw [he, p1]
  · have : (shK.put t.s b).1.full = if 0 < t.s.full then t.s.full - 1 else t.s.full := p7
    show (shK.put t.s b).1.full < 0
    rw [this, if_neg (by omega)]
    exact hfull
theorem vw_shGet (h : Vw S w0 w d t C R k) {a : Int × Int} (hr : shP.rd t.s a = some b) : Calls Try.prog 41 #[.pointer (some ⟨S, 0, none⟩), addrV a] w fun e w' =>
    ∃ (t' : PSt ShS) (A : Option Addr) (n c : Nat), e = .returned (.tuple #[.slice A n c, .int .i64 0]) ∧ Vw S w0 w' d t' C R k ∧ Nx S w w' d t t' ∧ Nm d t t' ∧ t'.pm = t.pm ∧ t'.s.L = t.s.L ∧ t'.s.full = t.s.full ∧ SlB w' (.slice A n c) b ∧ VIn (fun k => ¬ Own d t' k ∧ w.heap.size ≤ k) (.slice A n c) := by
  obtain ⟨q1, q2, q3, q4, q5⟩ := shP.get t.s a b h.inv.inn hr
  refine ((shM S).get a h.at_.at_).mono ?_
  rintro e w' ⟨v, he, ha, ho, hs, hf, _⟩
  rw [q1] at he hs
  obtain ⟨A, n, c, rfl, hnc, hsb, hAd⟩ := hs
  obtain ⟨g1, g2⟩ := h.sink (k1 := k) (O' := t.O) ha ho (fun _ => .inl) q2 (by rw [q3]; exact SubR.refl _) (fun r => by rw [q5]; exact h.room r) (shK_good.getR _ _ _ h.rdy) (Nat.le_refl _)
  refine ⟨_, A, n, c, he, g1, g2, ⟨rfl, rfl⟩, rfl, ?_, ?_, ⟨A, n, c, rfl, hnc, hsb⟩, fun b' o n' c' e hn => ?_⟩
  · show (shK.get t.s a).1.L = t.s.L
    simp only [shK]
    split
    · rfl
    · split <;> rfl
  · show (shK.get t.s a).1.full = t.s.full
    exact q5
  · have := hf b' o n' c' e
    refine ⟨fun e2 => ?_, this⟩
    have := h.lt (b := b') e2
    omega
end
/-- An act in its box. -/
structure AcB (w : World) (g : Nat) (a : Ac) : Prop where
  c0 : w.cell? ⟨g, 0, none⟩ = some (.int .i64 a.op)
  c1 : w.cell? ⟨g, 1, none⟩ = some (.int .i64 a.page)
  c2 : w.cell? ⟨g, 2, none⟩ = some (.int .i64 a.off)
  c3 : w.cell? ⟨g, 3, none⟩ = some (.int .i64 a.n)
  c4 : w.cell? ⟨g, 4, none⟩ = some (.slice a.A a.nb a.cb)
section
variable {w w' : World} {g : Nat} {a : Ac}
theorem AcB.lt (h : AcB w g a) : g < w.heap.size := lt_of_cell h.c0
theorem AcB.off {P : Nat → Prop} (h : AcB w g a) (ho : Off P w w') (hs : ¬ P g) : AcB w' g a :=
  ⟨(ho.cell (p := ⟨g, 0, none⟩) h.lt hs).trans h.c0, (ho.cell (p := ⟨g, 1, none⟩) h.lt hs).trans h.c1, (ho.cell (p := ⟨g, 2, none⟩) h.lt hs).trans h.c2, (ho.cell (p := ⟨g, 3, none⟩) h.lt hs).trans h.c3, (ho.cell (p := ⟨g, 4, none⟩) h.lt hs).trans h.c4⟩
theorem AcB.up (h : AcB w g a) (hb : Below w.heap.size w w') : AcB w' g a := h.off (P := fun _ => False) (Off.of_below hb) (fun e => e)
theorem AcB.new (w : World) (a : Ac) (T : TypeId) : AcB (w.alloc (.cells a.cells T)) w.heap.size a := by
  have hc : ∀ k v, a.cells[k]? = some v → (w.alloc (.cells a.cells T)).cell? ⟨w.heap.size, k, none⟩ = some v := fun k v hv => by
    rw [cell_of_row _ _ _ _ _ _ (heap_alloc_new w _)]; exact hv
  exact ⟨hc 0 _ rfl, hc 1 _ rfl, hc 2 _ rfl, hc 3 _ rfl, hc 4 _ rfl⟩
end
/-- What a step leaves. -/
def StPost (w0 : World) (Wb S : Nat) (d : PD) (R : Prop) (k m : Nat) (e : Ending) (w' : World) : Prop :=
  e = .returned (.bool true) ∧ ∃ t' vi' vb' xs', WA w0 w' Wb S d t' R k vi' vb' xs' ∧ xs'.length ≤ m + 1
end Go.Proofs.Ytmipngefpedfpaa
