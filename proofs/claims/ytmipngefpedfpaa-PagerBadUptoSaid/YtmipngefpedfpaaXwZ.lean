/- The shelf's Put, of bytes wherever they lie. -/
import Derived.Test.YtmipngefpedfpaaXrZ
namespace Go.Proofs.Ytmipngefpedfpaa
open Go.RowKit Go.Maps
set_option linter.unusedVariables false
set_option linter.unusedSimpArgs false

set_option maxRecDepth 100000 in
set_option maxHeartbeats 4000000 in
theorem shPutB_any {S : Nat} {w : World} {O : Nat → Prop} {s : ShS} {v : Value} {b : Bytes} (h : ShAt S w O s) (hr : shK.Rdy s 1) (hv : SlB w v b) (hbl : b.length ≤ 5000) : Calls Try.prog 23 #[.pointer (some ⟨S, 0, none⟩), v] w (PuPost (ShAt S) shK w O s b) := by
  obtain ⟨rv, vs, ov, h1, h2, h3, h4, h5, h6⟩ := h
  obtain ⟨Av, nv, cv, rfl, hcv, hsv⟩ := hv
  obtain ⟨Ar, cr, hrv⟩ : ∃ Ar cr, rv = .slice Ar vs.length cr := by
    rcases h1.row.2 with ⟨rfl, h0⟩ | ⟨g, cap, cur, rfl, _⟩
    · exact ⟨_, _, by rw [h0]⟩
    · exact ⟨_, _, rfl⟩
  have hnv := hsv.1
  have HI := Lib.hid h1
  have HS := Lib.hid h2
  have H3 := Lib.hid h3
  have H4 := Lib.hid h4
  have H5 := Lib.hid h5
  have H6 := Lib.hid h6
  have HSV := Lib.hid hsv
  have q3 := h1.c3
  have f3 := h1.fr 3
  have lS := h1.lt
  clear h1 h2 h3 h4 h5 h6 hsv
  go_enter Try.func23, Try.ntmps23
  by_cases h0 : s.full = 0
  · have hb : (s.full == 0) = true := by simp [h0]
    have H0 := Lib.hid h0
    clear h0
    go_wp2
    have hbx := (BoxA.new w 40 (0, 0)).set (0, 0)
    refine bodyPost_ret (results_addr rfl _ _ _ _ _ rfl (Box0.new w _).1.1 (Box0.new w _).1.2) rfl ?_
    have ho : Off O w (w.alloc (.cells #[.int .i64 0, .int .i64 0] 40)) := (Off.refl _ _).alloc _
    exact shPut_no H0.out (ShAt.off ⟨rv, vs, ov, HI.out, HS.out, H3.out, H4.out, H5.out, H6.out⟩ (P := fun _ => False) ((Off.refl _ _).alloc _) (fun _ => False.elim)) ho
  · have hb : (s.full == 0) = false := by simp [h0]
    have H0 := Lib.hid h0
    obtain ⟨f', hf'⟩ : ∃ f', f' = if 0 < s.full then s.full - 1 else s.full := ⟨_, rfl⟩
    have HF := Lib.hid hf'
    clear h0 hf'
    have hfl := hr.2.2.2
    by_cases hp : 0 < s.full
    case' pos =>
      have hw1 : IntKind.i64.wrap (s.full - 1) = s.full - 1 := IntWalk.i64_in _ (by omega)
    case' neg => skip
    all_goals
      go_upto_region 5 with (fail)
      refine wp_forget (fun V => ShIn V S rv vs ov { s with full := f' } ∧ BoxA V w.heap.size (0, 0) ∧ Off (· = S) w V) ?_ ?_
      · first
          | exact ⟨by rw [HF.out, if_neg hp]; exact HI.out.up ((Below.refl _ _).alloc (Nat.le_refl _) _), BoxA.new w _ (0, 0), (Off.refl _ _).alloc _⟩
          | exact ⟨by rw [HF.out, if_pos hp]; exact (HI.out.setFull (s.full - 1) (by omega)).up ((Below.refl _ _).alloc (Nat.le_refl _) _), by have := BoxA.new (w.setCell ⟨S, 3, none⟩ (.int .i64 (s.full - 1))) 40 (0, 0); rw [show (w.setCell ⟨S, 3, none⟩ (.int .i64 (s.full - 1))).heap.size = w.heap.size by simp] at this; exact this, ((Off.refl (· = S) w).setCell (p := ⟨S, 3, none⟩) rfl _).alloc _⟩
      rintro V ⟨hi, hbx, hof⟩
      have HIV := Lib.hid hi
      have HBX := Lib.hid hbx
      have HOF := Lib.hid hof
      have HVS : Hid (SBy V Av nv b) := Lib.hid (by
        have hn0 := HI.out.noBy (v := .slice Av nv cv) (L := b) ⟨_, _, _, rfl, hcv, HSV.out⟩
        obtain ⟨A5, n5, c5, e5, _, h5⟩ := SlB.offP (v := .slice Av nv cv) (L := b) ⟨_, _, _, rfl, hcv, HSV.out⟩ hof hn0
        cases e5
        exact h5)
      have hvl : vs.length ≤ 2147483647 := by have := hr.1; have := hi.len; simp only at this; omega
      have q0 := hi.c0
      have f0 := hi.fr 0
      rw [hrv] at q0
      have lS2 := hi.lt
      have HRV := Lib.hid hrv
      clear hi hbx hof q3 f3 hrv
      go_region_law (first
        | (refine step_appF (by rfl) _ _ (by rfl) V _ [] b (by rfl) (FrB.lit V).drew _ _ _ (by rfl) (HVS.out.up (((Below.refl _ _).alloc (Nat.le_refl _) _).drew)) (by simp; omega) nv (by simp; omega) ?_; intro A2 c2 w2 hf2; have HF2 := Lib.hid hf2; have q2 := (hf2.bel.cell (p := ⟨S, 0, none⟩) lS2).trans q0; have l2 := Nat.lt_of_lt_of_le lS2 hf2.bel.size; clear hf2)
        | (refine step_appR (by rfl) _ _ (by rfl) rv vs w2.heap.size A2 nv c2 (by rw [HRV.out]; rfl) (row_off ((HIV.out.up HF2.out.bel).row) (S := fun _ => False) (Off.of_below ((Below.refl _ _).alloc (Nat.le_refl _) _)) (fun _ _ => id)) (by rfl) (by rw [cell_of_row _ _ _ _ _ _ (heap_alloc_new w2 _)]; rfl) hvl ?_; intro v4 w4 hrow hg hat ⟨A4, n4, c4, e4⟩; subst e4; have HROW := Lib.hid hrow; have HGR := Lib.hid hg; have HAT := Lib.hid hat; have q5 := ((grown_off hg).cell (p := ⟨S, 0, none⟩) (by simp; omega) HIV.out.neR).trans ((((Below.refl w2.heap.size w2).alloc (Nat.le_refl _) _).cell (p := ⟨S, 0, none⟩) l2).trans q2); have f5 := ((grown_off hg).frozen (p := ⟨S, 0, none⟩) (by simp; omega) HIV.out.neR).trans ((((Below.refl w2.heap.size w2).alloc (Nat.le_refl _) _).frozen (p := ⟨S, 0, none⟩) l2).trans ((HF2.out.bel.frozen (p := ⟨S, 0, none⟩) lS2).trans f0)); clear hrow hg hat))
      all_goals
        go_upto_region 6 with (fail)
        have hput := HIV.out.put (rv' := .slice A4 n4 c4) (A := A2) (n := nv) (c := c2) ⟨hr.1, hr.2.1, hr.2.2.1, HIV.out.sz.2.2.2⟩ hbl HF2.out HROW.out HGR.out HAT.out
        have hn4 : n4 = vs.length + 1 := by
          rcases HROW.out.2 with ⟨e, h0⟩ | ⟨g, cap, cur, e, _⟩
          · simp at h0
          · cases e; simp
        refine wp_forget (fun W => ShIn W S (.slice A4 n4 c4) (vs ++ [Value.slice A2 nv c2]) ov { s with L := s.L ++ [b], full := f' } ∧ Off (fun k => k = S ∨ rv.ownBlock = some k) V W) ⟨hput.1, hput.2.1⟩ ?_
        rintro V5 ⟨hi5, ho5⟩
        have HI5 := Lib.hid hi5
        have HO5 := Lib.hid ho5
        have HPT := Lib.hid hput.2.2
        have hbx5 := HBX.out.off ho5 (fun e => e.elim (fun e => by omega) (fun e => by have := (World.ownsRow.lt HIV.out.row _ e).2; have := H3.out _ e; have := H6.out _ this; omega))
        have HBX5 := Lib.hid hbx5
        have p0 := hi5.c0
        have b0 := hbx5.1
        have b1 := hbx5.2.1
        have g0 := hbx5.2.2 0
        have g1 := hbx5.2.2 1
        have lS5 := hi5.lt
        have e4 : (n4 : Int) = (vs.length : Int) + 1 := by omega
        clear hput hi5 ho5 hbx5 q0 q2 q5 f0 f5 hn4 HF2 HROW HGR HAT
        go_wp2
        have hfin := HBX5.out.set ((vs.length : Int) + 1, 13 + (nv : Int))
        refine bodyPost_ret (results_addr rfl _ _ _ _ _ rfl hfin.1.1 hfin.1.2.1) rfl ?_
        exact shPut_yes H0.out HF.out (by rw [← hnv]) HIV.out.len HOF.out HBX.out.lt HI5.out HO5.out HPT.out.1 HPT.out.2.1 HPT.out.2.2 hfin.2 HS.out H3.out H4.out H5.out H6.out
section
variable {S : Nat} {w0 w w' w1 w2 : World} {d : PD} {t t' t1 t2 : PSt ShS} {C C' : Cn} {R : Prop} {k k1 k2 : Nat} {id : Int} {E : Int → Prop} {o : Option Bytes} {b : Bytes}
theorem vw_shPutB (h : Vw S w0 w d t C R (k + 1)) (hfull : t.s.full < 0) {A : Option Addr} {n c : Nat} (hS : SlB w (.slice A n c) b) (hl : b.length ≤ 5000) : Calls Try.prog 23 #[.pointer (some ⟨S, 0, none⟩), .slice A n c] w fun e w' =>
    ∃ (t' : PSt ShS) (a : Int × Int), e = .returned (.tuple #[addrV a, .int .i64 0]) ∧ Vw S w0 w' d t' C R k ∧ Nx S w w' d t t' ∧ Nm d t t' ∧ t'.pm = t.pm ∧ shP.rd t'.s a = some b ∧ SubR (shP.rd t.s) (shP.rd t'.s) ∧ t'.s.L.length = t.s.L.length + 1 ∧ t'.s.full < 0 := by
  refine (shPutB_any h.at_.at_ (h.at1 (by omega)) hS hl).mono ?_
  rintro e w' ⟨O', he, ha, ho, hO⟩
  obtain ⟨p1, p2, p3, p4, p5, p6, p7⟩ := shP.put t.s b h.inv.inn (h.at1 (by omega)) hl (by show t.s.full ≠ 0; omega)
  obtain ⟨g1, g2⟩ := h.sink (k1 := k) ha ho hO p2 p5 (fun r => by rw [p7]; have := h.room r; rw [if_neg (by omega)]; exact this) (shK_good.putR _ _ _ (shK_good.mono _ _ _ h.rdy (Nat.le_refl _)) hl) (by omega)
  refine ⟨_, _, ?_, g1, g2, ⟨rfl, rfl⟩, rfl, p3, p5, p6, ?_⟩
  · rw [he, p1]
  · have : (shK.put t.s b).1.full = if 0 < t.s.full then t.s.full - 1 else t.s.full := p7
    show (shK.put t.s b).1.full < 0
    rw [this, if_neg (by omega)]
    exact hfull
end
end Go.Proofs.Ytmipngefpedfpaa
