/- A space: fresh (facts). A space: fresh, walked. A space: Store's plain half: which pages are made, what becomes of all. -/
import Derived.Test.YtlhfjaagkgengaaGreatMUc
namespace Go.Proofs.YtlhfjaagkgengaaGreat
open Go.RowKit Go.Maps
set_option linter.unusedVariables false
set_option linter.unusedSimpArgs false
/-- Is a store to a part one that leaves all as it is? -/
def skipB (C : Cu) (m : Int → Option Int) (x : Pt) (b : Bytes) : Bool := match m (x.p : Nat) with
  | none => false
  | some id => match C id with
    | none => false
    | some p => decide (p.2 ≤ 1) && decide (secP p.1 x.o x.n = b)
section
variable {σ : Type} {K : SnkF σ} {M : Snk K} {P : PSnk K} {w w' w1 w2 wr : World} {d : PD} {t t' t1 t2 : PSt σ} {C C' : Cu} {k k1 k2 : Nat} {D : SpD} {A : Option Addr} {cap n : Nat} {L : List Rg} {m : Int → Option Int}
def FsPost (M : Snk K) (P : PSnk K) (w : World) (d : PD) (t : PSt σ) (C : Cu) (k : Nat) (D : SpD) (A : Option Addr) (cap : Nat) (L : List Rg) (m : Int → Option Int) (n : Nat) (x : Pt) (b : Bytes) (e : Ending) (w' : World) : Prop :=
  ∃ t', Nx P w w' d t t' ∧
    ((skipB C m x b = true ∧ e = .returned (.tuple #[.int .i64 0, .int .i64 0]) ∧ SS M P w' d t' C k D A cap L m n ∧ t'.nx = t.nx ∧ t'.cm = t.cm) ∨
     (skipB C m x b = false ∧ e = .returned (.tuple #[.int .i64 (t.nx : Nat), .int .i64 0]) ∧ SS M P w' d t' (updU C t.nx (some (setB (memF D.pg C m x.p) x.o b, 0))) k D A cap L m n ∧ t'.nx = t.nx + 1 ∧ t'.cm = t.cm + 1) ∨
     (skipB C m x b = false ∧ ¬ P.room t.s < 0 ∧ e = .returned (.tuple #[.int .i64 0, .int .i64 P.ez]) ∧ SS M P w' d t' C k D A cap L m n ∧ t'.nx = t.nx + 1 ∧ t'.cm = t.cm))
/-- Behind the page's bytes: the row to be laid. -/
structure FsI (M : Snk K) (P : PSnk K) (w wr : World) (d : PD) (t t1 : PSt σ) (C : Cu) (k : Nat) (D : SpD) (A : Option Addr) (cap : Nat) (L : List Rg) (m : Int → Option Int) (n : Nat) (b4 B c : Nat) (x : Pt) (cur : Bytes) (bA : Option Addr) (bc : Nat) (b : Bytes) : Prop where
  ss : SS M P wr d t1 C k D A cap L m n
  nx : Nx P w wr d t t1
  e1 : t1.nx = t.nx
  e2 : t1.cm = t.cm
  by_ : ByAt wr D.pg B c cur
  hB : w.heap.size ≤ B ∧ ¬ Own d t1 B
  box : Rg3 wr b4 (x.p : Nat) (x.o : Nat) (x.n : Nat)
  h4 : w.heap.size ≤ b4 ∧ ¬ Own d t1 b4 ∧ b4 ≠ B
  sb : SBy wr bA x.n b
  vb : VIn (fun g => g < w.heap.size ∧ ¬ Own d t1 g) (.slice bA x.n bc)
  np : 1 ≤ x.n ∧ x.o + x.n ≤ D.pg
variable {b4 B c bc : Nat} {x : Pt} {cur b : Bytes} {bA : Option Addr}
/-- The bytes are laid. -/
theorem FsI.copy (h : FsI M P w w1 d t t1 C k D A cap L m n b4 B c x cur bA bc b) (hwl : ∀ g, spO D A L.length g → g < w.heap.size) (hby : ByAt w2 D.pg B c (setB cur x.o b)) (ho : Off (· = B) w1 w2) : FsI M P w w2 d t t1 C k D A cap L m n b4 B c x (setB cur x.o b) bA bc b := by
  refine ⟨h.ss.offL ho (fun g e => by rw [e]; exact h.hB.2) (fun g e hg => by have := hwl g hg; have := h.hB.1; omega), h.nx.offN ho (fun g e => by rw [e]; exact h.hB.1), h.e1, h.e2, hby, h.hB, h.box.off ho h.h4.2.2, h.h4, ?_, h.vb, h.np⟩
  refine h.sb.off ho fun g o e hg => ?_
  have := (h.vb g o x.n bc (by rw [e]) h.np.1).1
  have := h.hB.1
  omega
/-- The pager has gone on, with more pages. -/
theorem fs_done (hK : K.Good) (hmi : P.Miss) (h : FsI M P w w1 d t t1 C (k + 2) D A cap L m n b4 B c x cur bA bc b) (hcur : cur.length = D.pg) (hsk : skipB C m x b = false) (hc : cur = setB (memF D.pg C m x.p) x.o b) {ez : Int} (hez : P.ez = ez) :
    Calls Tryz.prog 105 #[.pointer (some ⟨d.Q, 0, none⟩)] w1 fun e w2 => e = .returned (.int .i64 (t.nx : Nat)) ∧ SpAt w2 D A cap L m n ∧
      Calls Tryz.prog 106 #[.pointer (some ⟨d.Q, 0, none⟩), .int .i64 (t.nx : Nat), .int .i64 0, .slice (some ⟨B, 0, none⟩) D.pg c] w2 fun e w3 => (e = .returned (.int .i64 0) ∧ FsPost M P w d t C k D A cap L m n x b (.returned (.tuple #[.int .i64 (t.nx : Nat), .int .i64 0])) w3) ∨
        (e = .returned (.int .i64 ez) ∧ SpAt w3 D A cap L m n ∧ Calls Tryz.prog 64 #[.pointer (some ⟨d.Q, 0, none⟩), .int .i64 (t.nx : Nat)] w3 fun e w4 => e = .returned (.int .i64 0) ∧ FsPost M P w d t C k D A cap L m n x b (.returned (.tuple #[.int .i64 0, .int .i64 ez])) w4) := by
  subst hez
  refine (pv_make hK (k := k + 1) h.ss.pv).mono ?_
  rintro e w2 ⟨rfl, t2, hv2, hx2, e21, e22⟩
  rw [h.e1] at hv2 e21 ⊢
  have hnone : C (t.nx : Nat) = none := by
    cases hC : C (t.nx : Nat) with
    | none => rfl
    | some p =>
      have := (h.ss.pv.id1 _ p hC).2
      rw [h.e1] at this
      omega
  have hhas : ∀ (y : Bytes × Int) i id, m i = some id → ∃ p, updU C t.nx (some y) id = some p := fun y i id hi => by
    obtain ⟨p, hp⟩ := h.ss.has i id hi
    exact ⟨p, by rw [updU_ne _ _ (fun e => by rw [e, hnone] at hp; cases hp)]; exact hp⟩
  have hs2 := h.ss.pg hv2 hx2 (hhas _)
  have hkB := hx2.keep (h.by_.lt h.ss.ok.b4.1) h.hB.2
  have hby2 := h.by_.off h.ss.ok.b4.1 hx2.off h.hB.2
  refine ⟨rfl, hs2.sp, ?_⟩
  have hz := h.ss.z
  refine (pv_write hK hmi (k := k) (off := 0) hv2 (updU_same _ _ _) (hby2.sby) (by rw [hz]; omega) (fun g o n' c' e _ => by cases e; exact hkB.2)).mono ?_
  rintro e w3 ⟨t3, hx3, e31, e32, ⟨rfl, hv3⟩ | ⟨rfl, hnr, hv3⟩⟩
  · refine .inl ⟨rfl, t3, (h.nx.trans hx2).trans hx3, .inr (.inl ⟨hsk, rfl, ?_, by omega, by rw [e32, e22, h.e2]⟩)⟩
    have e5 : updU (updU C t.nx (some (zeros d.z, 0))) t.nx (some (setB (zeros d.z) 0 cur, 0)) = updU C t.nx (some (setB (memF D.pg C m x.p) x.o b, 0)) := by
      funext i
      unfold updU
      split
      · rw [← hc]
        congr 2
        unfold setB
        rw [List.drop_eq_nil_of_le (by rw [zeros_length]; omega)]
        simp
      · rfl
    rw [e5] at hv3
    exact hs2.pg hv3 hx3 (hhas _)
  · have hs3 := hs2.pg hv3 hx3 (hhas _)
    refine .inr ⟨rfl, hs3.sp, ?_⟩
    refine (pv_drop hv3 (updU_same _ _ _)).mono ?_
    rintro e w4 ⟨rfl, t4, hv4, hx4, e41, e42⟩
    have e5 : updU (updU C t.nx (some (zeros d.z, 0))) t.nx none = C := by
      funext i
      unfold updU
      split
      · rename_i e; rw [e, hnone]
      · rfl
    rw [e5] at hv4
    exact ⟨rfl, t4, ((h.nx.trans hx2).trans hx3).trans hx4, .inr (.inr ⟨hsk, fun e => hnr (hx2.rm (h.nx.rm e)), rfl, hs3.pg hv4 hx4 h.ss.has, by omega, by rw [e42, e32, e22, h.e2]; omega⟩)⟩
end
end Go.Proofs.YtlhfjaagkgengaaGreat
namespace Go.Proofs.YtlhfjaagkgengaaGreat
open Go.RowKit Go.Maps
set_option linter.unusedVariables false
set_option linter.unusedSimpArgs false
section
variable {σ : Type} {K : SnkF σ} {M : Snk K} {P : PSnk K} {w w' w1 w2 wr : World} {d : PD} {t t' t1 t2 : PSt σ} {C C' : Cu} {k k1 k2 : Nat} {D : SpD} {A : Option Addr} {cap n : Nat} {L : List Rg} {m : Int → Option Int}
set_option maxRecDepth 100000 in
set_option maxHeartbeats 8000000 in
theorem fresh_b (hK : K.Good) (hmi : P.Miss) (h : SS M P w d t C (k + 2) D A cap L m n) {xp xo xn : Nat} (hx : 1 ≤ xn ∧ xo + xn ≤ D.pg ∧ xp ≤ 300000000) {bA : Option Addr} {bc : Nat} {b : Bytes} (hS : SBy w bA xn b) (hbc : xn ≤ bc) (hV : VIn (fun g => g < w.heap.size ∧ ¬ Own d t g) (.slice bA xn bc)) :
    Calls Tryz.prog 63 #[.pointer (some ⟨D.X, 0, none⟩), .agg #[.int .i64 (xp : Nat), .int .i64 (xo : Nat), .int .i64 (xn : Nat)], .slice bA xn bc] w (FsPost M P w d t C k D A cap L m n ⟨xp, xo, xn⟩ b) := by
  have H := Lib.hid h
  have HKG := Lib.hid hK
  have HMI := Lib.hid hmi
  have HS := Lib.hid hS
  have HV := Lib.hid hV
  have hD := h.ok
  have hb4 := hD.b4
  have HZQ := Lib.hid (And.intro h.z h.q)
  have HWL : Hid (∀ g, spO D A L.length g → g < w.heap.size) := Lib.hid fun g hg => h.sp.lt hg
  have hez : (P.ez != 0) = true := by simp [P.ez0]
  obtain ⟨ez, hze⟩ : ∃ z, P.ez = z := ⟨_, rfl⟩
  rw [hze] at hez
  have HEZ := Lib.hid hze
  clear h hK hmi hS hV hze
  go_enter Tryz.func63, Tryz.ntmps63
  go_upto_region 1 with (fail)
  refine wp_forget (fun V => Below w.heap.size w V ∧ Rg3 V w.heap.size (xp : Nat) (xo : Nat) (xn : Nat)) ⟨(Below.refl _ _).alloc (Nat.le_refl _) _, Rg3.new w (xp : Nat) (xo : Nat) (xn : Nat) 120⟩ ?_
  rintro V ⟨hb, hr3⟩
  obtain ⟨b4, hb4e⟩ : ∃ g, w.heap.size = g := ⟨_, rfl⟩
  rw [hb4e] at hr3
  rw [hb4e]
  have HB4 := Lib.hid hb4e
  have hsv := H.out.up hb
  have HB := Lib.hid hb
  have HR3 := Lib.hid hr3
  have s11 := hsv.sp.c11
  have lX := hsv.sp.ltX
  have y0 := hr3.c0
  have hlk := fun nq => (hsv.up (below_drewN (Below.refl _ V) nq)).look hx.2.2 true
  simp only at hlk
  clear hb hr3 hsv hb4e
  cases hm : m (xp : Nat) with
  | none =>
    rw [hm] at hlk
    simp only [if_true] at hlk
    go_upto_region 1 with (fail)
    go_quiet (fail)
    go_upto_region 2 with (fail)
    refine wp_forget (fun W => Below w.heap.size w W ∧ Rg3 W b4 (xp : Nat) (xo : Nat) (xn : Nat)) ⟨HB.out.trans ((below_drewN (Below.refl _ V) nq).mono HB.out.size), HR3.out.up (below_drewN (Below.refl _ V) nq)⟩ ?_
    rintro W ⟨hbw, hr3⟩
    have HBW := Lib.hid hbw
    have HR4 := Lib.hid hr3
    have c4 := (H.out.up hbw).sp.page hD
    have lX2 := lt_of_cell c4
    have hmk := run_make_bytes D.pg (by omega) W
    have HZM := Lib.hid (FrB.zmade W D.pg (by omega))
    clear hbw hr3 s11 lX y0 hlk
    go_upto_region 10 with (fail)
    refine wp_forget (fun W2 => FsI M P w W2 d t t C (k + 2) D A cap L m n b4 W.heap.size D.pg ⟨xp, xo, xn⟩ (zeros D.pg) bA bc b) ?_ ?_
    · obtain ⟨B', c', e', hby, hB'⟩ := HZM.out.fresh (w0 := W) (by omega) (Nat.le_refl _)
      cases e'
      have hb2 := HBW.out.trans (HZM.out.bel.mono HBW.out.size)
      have hws := HBW.out.size
      have hbe := HB4.out
      have hl4 := lt_of_cell HR4.out.c0
      refine ⟨H.out.up hb2, Nx.refl.up hb2, rfl, rfl, hby, ⟨by omega, fun ho => by have := H.out.pv.lt ho; omega⟩, HR4.out.up HZM.out.bel, ⟨by omega, fun ho => by have := H.out.pv.lt ho; omega, by omega⟩, HS.out.up hb2, HV.out, ⟨hx.1, hx.2.1⟩⟩
    intro W2 hfs
    obtain ⟨B, hBe⟩ : ∃ g, W.heap.size = g := ⟨_, rfl⟩
    rw [hBe] at hfs
    rw [hBe]
    have HFS := Lib.hid hfs
    have x1 := hfs.box.c1
    have lx := lt_of_cell x1
    have hby := hfs.by_
    have hsb := hfs.sb
    have HBY := Lib.hid hby
    have HSB := Lib.hid hsb
    have i1 : (xo : Int) ≤ (D.pg : Int) := by omega
    have i2 : (0 : Int) ≤ (xo : Int) := by omega
    have i3 : xo ≠ D.pg := by omega
    clear hfs hby hsb hBe HZM hmk c4 lX2 HR4 HBW
    go_upto_region 11 with (with_reducible refine wpList_copy_by rfl (.tmp 68) (.tmp 69) rfl rfl rfl HBY.out hb4.1 HSB.out hx.2.1 rfl (fun _ => rfl) ?_; intro w2 hby2 ho2)
    have hcm : (zeros D.pg).length = D.pg := zeros_length _
    have hmem : memF D.pg C m xp = zeros D.pg := by unfold memF; rw [hm]
    have HFS2 := Lib.hid (HFS.out.copy HWL.out hby2 ho2)
    have HE := Lib.hid (fs_done HKG.out HMI.out HFS2.out (by rw [setB_len (by rw [hcm, HSB.out.1]; exact hx.2.1)]; exact hcm) (by unfold skipB; rw [hm]) (by rw [hmem]) HEZ.out)
    have s9 := HFS2.out.ss.sp.c9
    rw [HZQ.out.2] at s9
    have lX3 := HFS2.out.ss.sp.ltX
    clear hby2 ho2 hcm hmem HFS HBY HSB x1 lx i1 i2 i3 HFS2
    go_upto_region 12 with (go_at_call 105; go_loud (refine HE.out.mono ?_; rintro e w5 ⟨rfl, hsp, hw⟩; have HW := Lib.hid hw; have r9 := hsp.c9; have lX4 := hsp.ltX; rw [HZQ.out.2] at r9; clear hsp hw))
    clear s9 lX3 HE
    go_wp2_with fail
    refine HW.out.mono ?_
    rintro e w6 (⟨rfl, hp⟩ | ⟨rfl, hsp6, hdp⟩)
    · have HP := Lib.hid hp
      clear hp HW
      go_wp2
      go_ret2
      exact HP.out
    · have HDP := Lib.hid hdp
      have q9 := hsp6.c9
      rw [HZQ.out.2] at q9
      have lX6 := hsp6.ltX
      clear hsp6 hdp HW
      go_wp2_with (go_at_call 64; go_loud (refine HDP.out.mono ?_; rintro e w7 ⟨rfl, hp⟩; have HP := Lib.hid hp; clear hp))
      go_ret2
      exact HP.out
  | some id =>
    rw [hm] at hlk
    simp only [if_true] at hlk
    obtain ⟨⟨pb, pu⟩, hC⟩ := H.out.has _ id hm
    have hmem : memF D.pg C m xp = pb := by unfold memF; rw [hm]; simp only [hC]
    have hskip : skipB C m ⟨xp, xo, xn⟩ b = (decide (pu ≤ 1) && decide (secP pb xo xn = b)) := by unfold skipB; simp only [hm, hC]
    have HMS := Lib.hid (And.intro hmem hskip)
    have HCI := Lib.hid hC
    clear hmem hskip hC hm
    go_upto_region 1 with (fail)
    go_quiet (fail)
    go_upto_region 2 with (fail)
    refine wp_forget (fun W => Below w.heap.size w W ∧ Rg3 W b4 (xp : Nat) (xo : Nat) (xn : Nat)) ⟨HB.out.trans ((below_drewN (Below.refl _ V) nq).mono HB.out.size), HR3.out.up (below_drewN (Below.refl _ V) nq)⟩ ?_
    rintro W ⟨hbw, hr3⟩
    have HBW := Lib.hid hbw
    have HR4 := Lib.hid hr3
    have c4 := (H.out.up hbw).sp.page hD
    have lX2 := lt_of_cell c4
    have hmk := run_make_bytes D.pg (by omega) W
    have HZM := Lib.hid (FrB.zmade W D.pg (by omega))
    clear hbw hr3 s11 lX y0 hlk
    go_upto_region 4 with (fail)
    refine wp_forget (fun W2 => Below w.heap.size w W2 ∧ Rg3 W2 b4 (xp : Nat) (xo : Nat) (xn : Nat)) ⟨HBW.out.trans (HZM.out.bel.mono HBW.out.size), HR4.out.up HZM.out.bel⟩ ?_
    rintro W2 ⟨hbw2, hr5⟩
    have HBW2 := Lib.hid hbw2
    have HR5 := Lib.hid hr5
    have hs2 := H.out.up hbw2
    have s9 := hs2.sp.c9
    rw [HZQ.out.2] at s9
    have lX3 := hs2.sp.ltX
    have HPK := Lib.hid (pv_peek HKG.out HMI.out hs2.pv HCI.out)
    clear hbw2 hr5 hs2 HZM hmk c4 lX2 HR4 HBW
    go_upto_region 5 with (go_at_call 102; go_loud (refine HPK.out.mono ?_; rintro e w5 ⟨t5, v5, rfl, hv5, hx5, e51, e52, e53, hf5⟩))
    obtain ⟨B, c, rfl, hby, hB⟩ := hf5
    have hsz5 := hx5.off.size
    have hno5 : ∀ g, w.heap.size ≤ g → ¬ Own d t5 g := fun g hg ho => by have := H.out.pv.lt ((e53 g).1 ho); omega
    have hs5 := (H.out.up HBW2.out).pg hv5 hx5 H.out.has
    have hfs : FsI M P w w5 d t t5 C (k + 2) D A cap L m n b4 B c ⟨xp, xo, xn⟩ pb bA bc b := by
      have hbs := HBW2.out.size
      have hbe := HB4.out
      have hl4 := lt_of_cell HR5.out.c0
      have hS2 := HS.out.up HBW2.out
      have hno2 : ∀ g, w.heap.size ≤ g → ¬ Own d t g := fun g hg ho => by have := H.out.pv.lt ho; omega
      refine ⟨hs5, (Nx.refl.up HBW2.out).trans hx5, e51, e52, by rw [HZQ.out.1]; exact hby, ⟨by omega, hno5 _ (by omega)⟩, HR5.out.off hx5.off (hno2 _ (by omega)), ⟨by omega, hno5 _ (by omega), by omega⟩, hS2.off hx5.off (fun g o e => ?_), HV.out.mono (fun g hg => ⟨hg.1, fun ho => hg.2 ((e53 g).1 ho)⟩), ⟨hx.1, hx.2.1⟩⟩
      exact (HV.out g o xn bc (by rw [e]) hx.1).2
    have HFS := Lib.hid hfs
    have HSH := Lib.hid (pv_shared hs5.pv HCI.out)
    have s9' := hs5.sp.c9
    rw [HZQ.out.2] at s9'
    have lX5 := hs5.sp.ltX
    have x1 := hfs.box.c1
    have x2 := hfs.box.c2
    simp only at x1 x2
    have lx := lt_of_cell x1
    have hcap := hby.cap
    rw [← HZQ.out.1] at hcap
    have HBY := Lib.hid hfs.by_
    rw [← HZQ.out.1]
    clear hfs hs5 hno5 hv5 hx5 e51 e52 e53 hby hB hsz5 s9 lX3 HPK HR5 HBW2
    by_cases h1 : 1 < pu
    · rw [decide_eq_true h1] at HSH
      go_upto_region 10 with (go_at_call 103; go_loud (refine HSH.out.mono ?_; rintro e w5 ⟨rfl, rfl⟩))
      have i1 : (xo : Int) ≤ (D.pg : Int) := by omega
      have i2 : (0 : Int) ≤ (xo : Int) := by omega
      have i3 : xo ≠ D.pg := by omega
      have HSB := Lib.hid HFS.out.sb
      go_upto_region 11 with (with_reducible refine wpList_copy_by rfl (.tmp 68) (.tmp 69) rfl rfl rfl HBY.out hb4.1 HSB.out hx.2.1 rfl (fun _ => rfl) ?_; intro w2 hby2 ho2)
      have HFS2 := Lib.hid (HFS.out.copy HWL.out hby2 ho2)
      have HE := Lib.hid (fs_done HKG.out HMI.out HFS2.out (by rw [setB_len (by rw [HBY.out.len, HSB.out.1]; exact hx.2.1)]; exact HBY.out.len) (by rw [HMS.out.2]; simp; omega) (by rw [HMS.out.1]) HEZ.out)
      have s9 := HFS2.out.ss.sp.c9
      rw [HZQ.out.2] at s9
      have lX3 := HFS2.out.ss.sp.ltX
      clear hby2 ho2 HFS HBY HSB x1 x2 lx i1 i2 i3 HFS2 s9' lX5 HSH
      go_upto_region 12 with (go_at_call 105; go_loud (refine HE.out.mono ?_; rintro e w5 ⟨rfl, hsp, hw⟩; have HW := Lib.hid hw; have r9 := hsp.c9; have lX4 := hsp.ltX; rw [HZQ.out.2] at r9; clear hsp hw))
      clear s9 lX3 HE
      go_wp2_with fail
      refine HW.out.mono ?_
      rintro e w6 (⟨rfl, hp⟩ | ⟨rfl, hsp6, hdp⟩)
      · have HP := Lib.hid hp
        clear hp HW
        go_wp2
        go_ret2
        exact HP.out
      · have HDP := Lib.hid hdp
        have q9 := hsp6.c9
        rw [HZQ.out.2] at q9
        have lX6 := hsp6.ltX
        clear hsp6 hdp HW
        go_wp2_with (go_at_call 64; go_loud (refine HDP.out.mono ?_; rintro e w7 ⟨rfl, hp⟩; have HP := Lib.hid hp; clear hp))
        go_ret2
        exact HP.out
    · rw [decide_eq_false h1] at HSH
      have HEQ := Lib.hid (equal_any w5 (some ⟨B, xo, none⟩) bA xn (c - xo) xn bc _ _ (HBY.out.part hx.2.1 hb4.1) HFS.out.sb)
      have i1 : (xo : Int) ≤ ((xo + xn : Nat) : Int) := by omega
      have i2 : ((xo + xn : Nat) : Int) ≤ (c : Int) := by omega
      have i4 : IntKind.i64.wrap ((xo : Int) + (xn : Int)) = ((xo + xn : Nat) : Int) := by rw [IntWalk.i64_in _ (by omega)]; omega
      have i5 : (0 : Int) ≤ (xo : Int) := by omega
      have i6 : xo ≠ c := by omega
      obtain ⟨q, hq⟩ : ∃ q, decide (secP pb xo xn = b) = q := ⟨_, rfl⟩
      have HQ := Lib.hid hq
      rw [hq] at HEQ
      clear hq
      cases q with
      | true =>
        go_wp2_with (first | (go_at_call 103; go_loud (refine HSH.out.mono ?_; rintro e w5 ⟨rfl, rfl⟩)) | (go_at_call 104; go_loud (refine HEQ.out.mono ?_; rintro e w5 ⟨rfl, rfl⟩)))
        go_ret2
        have hsk : skipB C m ⟨xp, xo, xn⟩ b = true := by rw [HMS.out.2, HQ.out, decide_eq_true (by omega)]; rfl
        exact ⟨t5, HFS.out.nx, .inl ⟨hsk, rfl, HFS.out.ss.less HKG.out (by omega), HFS.out.e1, HFS.out.e2⟩⟩
      | false =>
        go_upto_region 10 with (first | (go_at_call 103; go_loud (refine HSH.out.mono ?_; rintro e w5 ⟨rfl, rfl⟩)) | (go_at_call 104; go_loud (refine HEQ.out.mono ?_; rintro e w5 ⟨rfl, rfl⟩)))
        have j1 : (xo : Int) ≤ (D.pg : Int) := by omega
        have j2 : (0 : Int) ≤ (xo : Int) := by omega
        have j3 : xo ≠ D.pg := by omega
        have HSB := Lib.hid HFS.out.sb
        go_upto_region 11 with (with_reducible refine wpList_copy_by rfl (.tmp 68) (.tmp 69) rfl rfl rfl HBY.out hb4.1 HSB.out hx.2.1 rfl (fun _ => rfl) ?_; intro w2 hby2 ho2)
        have HFS2 := Lib.hid (HFS.out.copy HWL.out hby2 ho2)
        have HE := Lib.hid (fs_done HKG.out HMI.out HFS2.out (by rw [setB_len (by rw [HBY.out.len, HSB.out.1]; exact hx.2.1)]; exact HBY.out.len) (by rw [HMS.out.2, HQ.out, Bool.and_false]) (by rw [HMS.out.1]) HEZ.out)
        have s9 := HFS2.out.ss.sp.c9
        rw [HZQ.out.2] at s9
        have lX3 := HFS2.out.ss.sp.ltX
        clear hby2 ho2 HFS HBY HSB x1 x2 lx j1 j2 j3 HFS2 s9' lX5 HSH HEQ
        go_upto_region 12 with (go_at_call 105; go_loud (refine HE.out.mono ?_; rintro e w5 ⟨rfl, hsp, hw⟩; have HW := Lib.hid hw; have r9 := hsp.c9; have lX4 := hsp.ltX; rw [HZQ.out.2] at r9; clear hsp hw))
        clear s9 lX3 HE
        go_wp2_with fail
        refine HW.out.mono ?_
        rintro e w6 (⟨rfl, hp⟩ | ⟨rfl, hsp6, hdp⟩)
        · have HP := Lib.hid hp
          clear hp HW
          go_wp2
          go_ret2
          exact HP.out
        · have HDP := Lib.hid hdp
          have q9 := hsp6.c9
          rw [HZQ.out.2] at q9
          have lX6 := hsp6.ltX
          clear hsp6 hdp HW
          go_wp2_with (go_at_call 64; go_loud (refine HDP.out.mono ?_; rintro e w7 ⟨rfl, hp⟩; have HP := Lib.hid hp; clear hp))
          go_ret2
          exact HP.out
end
end Go.Proofs.YtlhfjaagkgengaaGreat
namespace Go.Proofs.YtlhfjaagkgengaaGreat
open Go.RowKit Go.Maps
set_option linter.unusedVariables false
set_option linter.unusedSimpArgs false
/-- A page that is made: where it is to stand, its number, its bytes. -/
structure Mk3 where
  p : Nat
  id : Nat
  b : Bytes
/-- The pages that a store makes. -/
def mkF (z : Nat) (C : Cu) (m : Int → Option Int) : Nat → List Pt → Bytes → List Mk3
  | _, [], _ => []
  | nx, x :: ps, b => if skipB C m x (b.take x.n) = true then mkF z C m nx ps (b.drop x.n) else ⟨x.p, nx, setB (memF z C m x.p) x.o (b.take x.n)⟩ :: mkF z C m (nx + 1) ps (b.drop x.n)
/-- They are there, and nobody uses them. -/
def addC (C : Cu) : List Mk3 → Cu
  | [] => C
  | e :: l => addC (updU C (e.id : Int) (some (e.b, 0))) l
/-- Which page is to stand where. -/
def mkM : List Mk3 → Int → Option Int
  | [], _ => none
  | e :: l, i => (mkM l i).or (if i = (e.p : Int) then some (e.id : Int) else none)
theorem mkM_snoc (l : List Mk3) (e : Mk3) : mkM (l ++ [e]) = updM (mkM l) (e.p : Int) (some (e.id : Int)) := by
  funext i
  unfold updM
  induction l with
  | nil =>
    simp only [List.nil_append, mkM, Option.none_or]
  | cons y l ih =>
    rw [List.cons_append, mkM, ih]
    by_cases h : i = (e.p : Int)
    · rw [if_pos h, if_pos h]; rfl
    · rw [if_neg h, if_neg h, mkM]
theorem addC_snoc (C : Cu) (l : List Mk3) (e : Mk3) : addC C (l ++ [e]) = updU (addC C l) (e.id : Int) (some (e.b, 0)) := by
  induction l generalizing C with
  | nil => rfl
  | cons y l ih => rw [List.cons_append, addC, ih, addC]
theorem addC_old (C : Cu) : ∀ (l : List Mk3) (i : Int), (∀ e ∈ l, (e.id : Int) ≠ i) → addC C l i = C i
  | [], _, _ => rfl
  | e :: l, i, h => by
    rw [addC, addC_old _ l i (fun y hy => h y (List.mem_cons_of_mem _ hy)), updU_ne _ _ (fun e2 => h e List.mem_cons_self e2.symm)]
theorem mkM_some : ∀ (l : List Mk3) (i j : Int), mkM l i = some j → ∃ e ∈ l, i = (e.p : Int) ∧ j = (e.id : Int)
  | [], _, _, h => by cases h
  | e :: l, i, j, h => by
    rw [mkM] at h
    cases hm : mkM l i with
    | some k =>
      rw [hm] at h
      cases h
      obtain ⟨y, hy, e1⟩ := mkM_some l i j hm
      exact ⟨y, List.mem_cons_of_mem _ hy, e1⟩
    | none =>
      rw [hm, Option.none_or] at h
      split at h
      · rename_i e1
        cases h
        exact ⟨e, List.mem_cons_self, e1, rfl⟩
      · cases h
/-- Of entries whose places rise each is the one at its place. -/
theorem mkM_mem : ∀ (l : List Mk3), l.Pairwise (fun x y => x.p < y.p) → ∀ e ∈ l, mkM l (e.p : Int) = some (e.id : Int)
  | [], _, e, he => by cases he
  | y :: l, hp, e, he => by
    obtain ⟨h1, h2⟩ := List.pairwise_cons.1 hp
    rw [mkM]
    rcases List.mem_cons.1 he with rfl | he
    · cases hm : mkM l (e.p : Int) with
      | some k =>
        obtain ⟨y, hy, e1, _⟩ := mkM_some l _ _ hm
        have := h1 y hy
        omega
      | none => rw [Option.none_or, if_pos rfl]
    · rw [mkM_mem l h2 e he]; rfl
theorem addC_mem : ∀ (C : Cu) (l : List Mk3), l.Pairwise (fun x y => x.id < y.id) → ∀ e ∈ l, addC C l (e.id : Int) = some (e.b, 0)
  | _, [], _, e, he => by cases he
  | C, y :: l, hp, e, he => by
    obtain ⟨h1, h2⟩ := List.pairwise_cons.1 hp
    rw [addC]
    rcases List.mem_cons.1 he with rfl | he
    · rw [addC_old _ l _ (fun z hz => by have := h1 z hz; omega), updU_same]
    · exact addC_mem _ l h2 e he
/-- Parts' places rise. -/
theorem partsN_pair (z : Nat) (hz : 0 < z) : ∀ (f a n : Nat), (partsN z f a n).Pairwise (fun x y => x.p < y.p)
  | 0, _, _ => List.Pairwise.nil
  | f + 1, a, n => by
    have hm := Nat.mod_lt a hz
    have hdm := Nat.div_add_mod a z
    unfold partsN
    split
    · exact List.Pairwise.nil
    · refine List.pairwise_cons.2 ⟨fun y hy => ?_, partsN_pair z hz f _ _⟩
      by_cases h2 : n ≤ z - a % z
      · have hnil : ∀ f a, partsN z f a 0 = [] := fun f a => by cases f <;> simp [partsN]
        rw [show n - min n (z - a % z) = 0 by omega, hnil] at hy
        cases hy
      · obtain ⟨_, _, _, h4, _⟩ := partsN_in z hz f _ _ y hy
        have e : a + min n (z - a % z) = (a / z + 1) * z := by
          rw [Nat.add_mul, Nat.one_mul, Nat.mul_comm]
          omega
        rw [e, Nat.mul_div_cancel _ hz] at h4
        simp only
        omega
theorem mkF_mem (z : Nat) (C : Cu) (m : Int → Option Int) : ∀ (ps : List Pt) (nx : Nat) (b : Bytes) (e : Mk3), e ∈ mkF z C m nx ps b → nx ≤ e.id ∧ ∃ x ∈ ps, e.p = x.p
  | [], _, _, _, h => by cases h
  | x :: ps, nx, b, e, h => by
    rw [mkF] at h
    split at h
    · obtain ⟨h1, y, hy, e1⟩ := mkF_mem z C m ps _ _ e h
      exact ⟨h1, y, List.mem_cons_of_mem _ hy, e1⟩
    · rcases List.mem_cons.1 h with rfl | h
      · exact ⟨Nat.le_refl _, x, List.mem_cons_self, rfl⟩
      · obtain ⟨h1, y, hy, e1⟩ := mkF_mem z C m ps _ _ e h
        exact ⟨by omega, y, List.mem_cons_of_mem _ hy, e1⟩
theorem mkF_ids (z : Nat) (C : Cu) (m : Int → Option Int) : ∀ (ps : List Pt) (nx : Nat) (b : Bytes), (mkF z C m nx ps b).Pairwise (fun x y => x.id < y.id) ∧ ∀ e ∈ mkF z C m nx ps b, e.id < nx + (mkF z C m nx ps b).length
  | [], _, _ => ⟨List.Pairwise.nil, fun e h => by cases h⟩
  | x :: ps, nx, b => by
    rw [mkF]
    split
    · exact mkF_ids z C m ps nx _
    · obtain ⟨h1, h2⟩ := mkF_ids z C m ps (nx + 1) (b.drop x.n)
      refine ⟨List.pairwise_cons.2 ⟨fun y hy => (mkF_mem z C m ps _ _ y hy).1, h1⟩, fun e he => ?_⟩
      rcases List.mem_cons.1 he with rfl | he
      · simp
      · have := h2 e he
        rw [List.length_cons]
        omega
theorem mkF_places (z : Nat) (C : Cu) (m : Int → Option Int) : ∀ (ps : List Pt) (nx : Nat) (b : Bytes), ps.Pairwise (fun x y => x.p < y.p) → (mkF z C m nx ps b).Pairwise (fun x y => x.p < y.p)
  | [], _, _, _ => List.Pairwise.nil
  | x :: ps, nx, b, h => by
    obtain ⟨h1, h2⟩ := List.pairwise_cons.1 h
    rw [mkF]
    split
    · exact mkF_places z C m ps nx _ h2
    · refine List.pairwise_cons.2 ⟨fun y hy => ?_, mkF_places z C m ps _ _ h2⟩
      obtain ⟨_, s, hs, e1⟩ := mkF_mem z C m ps _ _ y hy
      have := h1 s hs
      simp only
      omega
theorem mkF_len (z : Nat) (C : Cu) (m : Int → Option Int) : ∀ (ps : List Pt) (nx : Nat) (b : Bytes), (mkF z C m nx ps b).length ≤ ps.length
  | [], _, _ => Nat.le_refl _
  | x :: ps, nx, b => by
    rw [mkF]
    split
    · have := mkF_len z C m ps nx (b.drop x.n); simp only [List.length_cons]; omega
    · have := mkF_len z C m ps (nx + 1) (b.drop x.n); simp only [List.length_cons]; omega
/-- More pages, that the space does not have: it sees no other. -/
theorem skipB_add {C : Cu} {m : Int → Option Int} {l : List Mk3} {N : Nat} (hl : ∀ e ∈ l, N ≤ e.id) (hm : ∀ i id, m i = some id → id < N) (x : Pt) (b : Bytes) : skipB (addC C l) m x b = skipB C m x b := by
  unfold skipB
  cases h : m (x.p : Nat) with
  | none => rfl
  | some id =>
    simp only
    rw [addC_old C l id (fun e he => by have := hl e he; have := hm _ _ h; omega)]
theorem memF_add {z : Nat} {C : Cu} {m : Int → Option Int} {l : List Mk3} {N : Nat} (hl : ∀ e ∈ l, N ≤ e.id) (hm : ∀ i id, m i = some id → id < N) (i : Nat) : memF z (addC C l) m i = memF z C m i := by
  unfold memF
  cases h : m (i : Nat) with
  | none => rfl
  | some id =>
    simp only
    rw [addC_old C l id (fun e he => by have := hl e he; have := hm _ _ h; omega)]
/-! ### the pages take their places, in whatever order -/
open Classical in
/-- Behind the places dn: which page stands where. -/
noncomputable def plM (m : Int → Option Int) (R : List Mk3) (dn : Int → Prop) : Int → Option Int := fun i => if dn i then mkM R i else m i
open Classical in
/-- .. what the pager holds. -/
noncomputable def plC (C : Cu) (m : Int → Option Int) (R : List Mk3) (dn : Int → Prop) : Cu := fun id =>
  if ∃ e ∈ R, (e.id : Int) = id ∧ dn (e.p : Int) then (addC C R id).map fun p => (p.1, 1)
  else if ∃ k, dn k ∧ m k = some id then decU (C id) else addC C R id
theorem plC_congr {C : Cu} {m : Int → Option Int} {R : List Mk3} {dn dn' : Int → Prop} {id : Int} (ha : (∃ e ∈ R, (e.id : Int) = id ∧ dn' (e.p : Int)) ↔ ∃ e ∈ R, (e.id : Int) = id ∧ dn (e.p : Int)) (hb : (∃ k, dn' k ∧ m k = some id) ↔ ∃ k, dn k ∧ m k = some id) : plC C m R dn' id = plC C m R dn id := by
  unfold plC
  by_cases c1 : ∃ e ∈ R, (e.id : Int) = id ∧ dn (e.p : Int)
  · rw [if_pos c1, if_pos (ha.2 c1)]
  · rw [if_neg c1, if_neg (fun h => c1 (ha.1 h))]
    by_cases c2 : ∃ k, dn k ∧ m k = some id
    · rw [if_pos c2, if_pos (hb.2 c2)]
    · rw [if_neg c2, if_neg (fun h => c2 (hb.1 h))]
theorem plC_none (C : Cu) (m : Int → Option Int) (R : List Mk3) : plC C m R (fun _ => False) = addC C R := by
  funext id
  unfold plC
  rw [if_neg (by rintro ⟨e, _, _, h⟩; exact h), if_neg (by rintro ⟨k, h, _⟩; exact h)]
theorem plM_none (m : Int → Option Int) (R : List Mk3) : plM m R (fun _ => False) = m := by
  funext i
  unfold plM
  rw [if_neg id]
section
variable {C : Cu} {m : Int → Option Int} {R : List Mk3} {N : Nat} {dn : Int → Prop} {k : Int} {e : Mk3}
/-- The page that stood there is let go. -/
def letC (C0 C : Cu) : Option Int → Cu
  | none => C0
  | some o => updU C0 o (decU (C o))
/-- What is needed of the pages that are made. -/
structure MkOk (C : Cu) (m : Int → Option Int) (R : List Mk3) (N : Nat) : Prop where
  ids : R.Pairwise (fun x y => x.id < y.id)
  pl : R.Pairwise (fun x y => x.p < y.p)
  new : ∀ e ∈ R, N ≤ e.id
  old : ∀ i p, C i = some p → i < N
  has : ∀ i id, m i = some id → ∃ p, C id = some p
  inj : ∀ i j id, m i = some id → m j = some id → i = j
theorem MkOk.id_lt (h : MkOk C m R N) {i id : Int} (hm : m i = some id) : id < N := by
  obtain ⟨p, hp⟩ := h.has i id hm
  exact h.old id p hp
theorem MkOk.at_new (h : MkOk C m R N) (he : e ∈ R) (hd : ¬ dn (e.p : Int)) : plC C m R dn (e.id : Int) = some (e.b, 0) := by
  have huniq : ∀ y ∈ R, (y.id : Int) = (e.id : Int) → y = e := by
    intro y hy hid
    obtain ⟨i, hi⟩ := List.mem_iff_getElem?.1 hy
    obtain ⟨j, hj⟩ := List.mem_iff_getElem?.1 he
    have il := (List.getElem?_eq_some_iff.1 hi)
    have jl := (List.getElem?_eq_some_iff.1 hj)
    rcases Nat.lt_trichotomy i j with g | g | g
    · have := List.pairwise_iff_getElem.1 h.ids i j il.1 jl.1 g
      rw [il.2, jl.2] at this
      omega
    · subst g; rw [hi] at hj; exact Option.some.inj hj
    · have := List.pairwise_iff_getElem.1 h.ids j i jl.1 il.1 g
      rw [il.2, jl.2] at this
      omega
  unfold plC
  rw [if_neg (by rintro ⟨y, hy, hid, hdn⟩; rw [huniq y hy hid] at hdn; exact hd hdn), if_neg (by
    rintro ⟨k, _, hk⟩
    have := h.id_lt hk
    have := h.new e he
    omega), addC_mem C R h.ids e he]
theorem MkOk.at_old (h : MkOk C m R N) {id : Int} (hm : m k = some id) (hd : ¬ dn k) : plC C m R dn id = C id ∧ plM m R dn k = some id := by
  have hid := h.id_lt hm
  unfold plC plM
  rw [if_neg (by rintro ⟨y, hy, hy2, _⟩; have := h.new y hy; omega), if_neg (by rintro ⟨j, hj, hj2⟩; rw [h.inj j k id hj2 hm] at hj; exact hd hj), if_neg hd]
  exact ⟨addC_old C R id fun y hy => by have := h.new y hy; omega, hm⟩
/-- One page more takes its place. -/
theorem MkOk.step (h : MkOk C m R N) (he : e ∈ R) (hd : ¬ dn (e.p : Int)) {dn' : Int → Prop} (hdn : ∀ i, dn' i ↔ dn i ∨ i = (e.p : Int)) {old : Option Int} (ho : m (e.p : Int) = old) :
    plC C m R dn' = updU (letC (plC C m R dn) C old) (e.id : Int) (some (e.b, 1)) ∧ plM m R dn' = updM (plM m R dn) (e.p : Int) (some (e.id : Int)) := by
  have hnew := h.new e he
  have hplace : ∀ y ∈ R, y.p = e.p → y = e := by
    intro y hy hid
    obtain ⟨i, hi⟩ := List.mem_iff_getElem?.1 hy
    obtain ⟨j, hj⟩ := List.mem_iff_getElem?.1 he
    have il := (List.getElem?_eq_some_iff.1 hi)
    have jl := (List.getElem?_eq_some_iff.1 hj)
    rcases Nat.lt_trichotomy i j with g | g | g
    · have := List.pairwise_iff_getElem.1 h.pl i j il.1 jl.1 g
      rw [il.2, jl.2] at this
      omega
    · subst g; rw [hi] at hj; exact Option.some.inj hj
    · have := List.pairwise_iff_getElem.1 h.pl j i jl.1 il.1 g
      rw [il.2, jl.2] at this
      omega
  constructor
  · funext id
    by_cases h1 : id = (e.id : Int)
    · rw [h1, updU_same]
      unfold plC
      rw [if_pos ⟨e, he, rfl, (hdn _).2 (.inr rfl)⟩, addC_mem C R h.ids e he]
      rfl
    · rw [updU_ne _ _ h1]
      have ha : (∃ y ∈ R, (y.id : Int) = id ∧ dn' (y.p : Int)) ↔ (∃ y ∈ R, (y.id : Int) = id ∧ dn (y.p : Int)) := by
        constructor
        · rintro ⟨y, hy, hid, hd2⟩
          rcases (hdn _).1 hd2 with g | g
          · exact ⟨y, hy, hid, g⟩
          · exact absurd (by rw [← hid, hplace y hy (by omega)]) h1
        · rintro ⟨y, hy, hid, hd2⟩
          exact ⟨y, hy, hid, (hdn _).2 (.inl hd2)⟩
      cases old with
      | none =>
        have hb : (∃ k, dn' k ∧ m k = some id) ↔ (∃ k, dn k ∧ m k = some id) := by
          constructor
          · rintro ⟨k, hk, hm⟩
            rcases (hdn _).1 hk with g | g
            · exact ⟨k, g, hm⟩
            · rw [g, ho] at hm; cases hm
          · rintro ⟨k, hk, hm⟩; exact ⟨k, (hdn _).2 (.inl hk), hm⟩
        exact plC_congr ha hb
      | some o =>
        rw [show letC (plC C m R dn) C (some o) = updU (plC C m R dn) o (decU (C o)) from rfl]
        by_cases h2 : id = o
        · rw [h2, updU_same]
          have hol := h.id_lt ho
          unfold plC
          rw [if_neg (by rintro ⟨y, hy, hy2, _⟩; have := h.new y hy; omega), if_pos ⟨_, (hdn _).2 (.inr rfl), ho⟩]
        · rw [updU_ne _ _ h2]
          have hb : (∃ k, dn' k ∧ m k = some id) ↔ (∃ k, dn k ∧ m k = some id) := by
            constructor
            · rintro ⟨k, hk, hm⟩
              rcases (hdn _).1 hk with g | g
              · exact ⟨k, g, hm⟩
              · rw [g, ho] at hm
                exact absurd (Option.some.inj hm).symm h2
            · rintro ⟨k, hk, hm⟩; exact ⟨k, (hdn _).2 (.inl hk), hm⟩
          exact plC_congr ha hb
  · funext i
    by_cases h1 : i = (e.p : Int)
    · rw [h1, updM_same]
      unfold plM
      rw [if_pos ((hdn _).2 (.inr rfl)), mkM_mem R h.pl e he]
    · rw [updM_ne _ _ h1]
      unfold plM
      by_cases h2 : dn i
      · rw [if_pos h2, if_pos ((hdn _).2 (.inl h2))]
      · rw [if_neg h2, if_neg (fun g => by rcases (hdn _).1 g with g | g; exact h2 g; exact h1 g)]
end
end Go.Proofs.YtlhfjaagkgengaaGreat
