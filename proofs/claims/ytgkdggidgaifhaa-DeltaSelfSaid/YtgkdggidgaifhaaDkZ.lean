/- delta's laws: set, walked. -/
import Derived.Test.YtgkdggidgaifhaaME
import Derived.Deep.CutBlock
namespace Go.Proofs.Ytgkdggidgaifhaa
open Go.RowKit Go.Maps Go.MapKept
open Go.ChangeMaps (setBlock)
set_option linter.unusedVariables false
set_option linter.unusedSimpArgs false

/-- set has answered. -/
structure St12 (W w w' : World) (S T : Nat) (O O' : Nat → Prop) (st st' : ShS × Int) (r' : Int × Int) (Mb : Nat) (m' : Mp) (ps' : Ps) (N : Nat) : Prop where
  l : ShL W w' S T O' st'
  rdy : shK.Rdy st'.1 N
  full : st'.1.full < 0
  tells : TellsR (shRd st'.1.L) r' m'
  lst : Lst m' ps'
  mp : GMap w' Mb m' ps'.length
  oM : Out O' T Mb
  geM : w.heap.size ≤ Mb
  ev : StEv w w' T O O' st st'
def St12Post (W w : World) (S T : Nat) (O : Nat → Prop) (st : ShS × Int) (m' : Mp) (n0 N : Nat) (e : Ending) (w' : World) : Prop :=
  ∃ O' st' r' Mb ps', e = .returned (.tuple #[.agg #[.int .i64 (r' : Int × Int).1, .int .i64 r'.2], .map (some Mb), .bool true]) ∧ ps'.length ≤ n0 ∧ St12 W w w' S T O O' st st' r' Mb m' ps' N
theorem results_ctt {fn : Func} {p u v : Tmp} (h : fn.results = #[.cell p 30, .tmp u, .tmp v]) (tmps : Array Value) (w : World) (g : Nat) (v0 v1 : Value) (hp : tmps.getD p undef = .pointer (some ⟨g, 0, none⟩)) (h0 : w.cell? ⟨g, 0, none⟩ = some v0) (h1 : w.cell? ⟨g, 1, none⟩ = some v1) :
    (results fn tmps).run Try.prog w = .ok (.tuple #[.agg #[v0, v1], tmps.getD u undef, tmps.getD v undef]) w := by
  have e : (results fn tmps).run Try.prog w = ((asAddr (tmps.getD p undef)).run Try.prog w).andThen fun a w₁ => ((loadVar 30 a).run Try.prog w₁).andThen fun x w₂ => .ok (.tuple #[x, tmps.getD u undef, tmps.getD v undef]) w₂ := by
    simp only [results, h]
    simp [Sem.run_bind, Result.andThen]
  rw [e, hp]
  simp only [asAddr, Sem.run_pure, Result.andThen_ok, loadVar_addr h0 h1]
set_option maxRecDepth 100000 in
set_option maxHeartbeats 8000000 in
theorem set12_any {W w : World} {S T : Nat} {O : Nat → Prop} {st : ShS × Int} {r : Int × Int} {m : Mp} {ps : Ps} {mv : Value} {A : Option Addr} {n c N : Nat} {b : Nat → PArg} (h : ShL W w S T O st) (hr : shK.Rdy st.1 (14 * n + N)) (hf : st.1.full < 0) (hm : TellsR (shRd st.1.L) r m) (hp : Lst m ps) (hmv : MapV w mv m ps.length) (hb : Prs W A n b) (hok : ∀ i, i < n → okP (b i)) (hn : n ≤ 100) :
    Calls Try.prog 11 #[.pointer (some ⟨T, 0, none⟩), .agg #[.int .i64 r.1, .int .i64 r.2], mv, .slice A n c] w (St12Post W w S T O st (mpZ m b n) (ps.length + n) N) := by
  obtain ⟨ra, rb⟩ := r
  have H := Lib.hid h
  have HR := Lib.hid hr
  have HF := Lib.hid hf
  have HM := Lib.hid hm
  have HP := Lib.hid hp
  have HMV := Lib.hid hmv
  have HB := Lib.hid hb
  have HOK := Lib.hid hok
  have HOL := Lib.hid (fun k hk => (shM S).lt h.tr.at_ (k := k) hk)
  have hT := h.tr.lt
  have HWw := Lib.hid h.bel.size
  clear h hr hf hm hp hmv hb hok
  have hmm := @run_makeMap Try.prog
  go_enter Try.func11, Try.ntmps11
  go_upto_region 1 with (fail)
  refine wp_forget (fun V => Below w.heap.size w V ∧ BoxA V w.heap.size (ra, rb) ∧ BoxA V (w.heap.size + 1) (0, 0) ∧ V.heap.size = w.heap.size + 2) (two_boxesR w (ra, rb) (0, 0) _ _ _ rfl) ?_
  rintro V0 ⟨hb0, x5, x8, hs0⟩
  have X5 := Lib.hid x5
  have X8 := Lib.hid x8
  have HB0 := Lib.hid hb0
  obtain ⟨g5, hg5⟩ : ∃ g, w.heap.size = g := ⟨_, rfl⟩
  obtain ⟨g8, hg8⟩ : ∃ g, w.heap.size + 1 = g := ⟨_, rfl⟩
  obtain ⟨Mb, hMb⟩ : ∃ g, V0.heap.size = g := ⟨_, rfl⟩
  have HG : Hid (w.heap.size = g5 ∧ g8 = g5 + 1 ∧ Mb = g5 + 2) := Lib.hid (by omega)
  rw [hg5] at X5
  rw [hg8] at X8
  rw [hg8, hg5]
  clear x5 x8 hb0 hs0 hg5 hg8
  go_cut [11] from 17 to 17 (fun s11 V => s11 = .map (some Mb) ∧ MapIs Try.prog 3 V Mb (gmF (fun _ => none)) 0 ∧ Below V0.heap.size V0 V)
  case first =>
    go_wp2_with fail
    go_meet
    rw [hMb]
    refine ⟨rfl, ?_, (Below.refl _ _).alloc (by omega) _⟩
    rw [gmF_none, ← hMb]
    exact MapIs.made V0
  case rest =>
  obtain ⟨rfl, hmp0, hb1⟩ := hcut
  have HM0 := Lib.hid hmp0
  have HB1 := Lib.hid hb1
  have hMlt := MapIs.lt hmp0
  have HMV1 : Hid (MapV wc mv m ps.length) := Lib.hid (by
    rcases HMV.out with h | ⟨b0, e, h⟩
    · exact .inl h
    · exact .inr ⟨b0, e, (h.off (S := fun _ => False) (Off.of_below HB0.out) id).off (S := fun _ => False) (Off.of_below HB1.out) id⟩)
  have HMW : Hid (∀ b0, mv = .map (some b0) → b0 < g5) := Lib.hid fun b0 e => by
    rcases HMV.out with ⟨h, _⟩ | ⟨b1, e1, h⟩
    · rw [e] at h; cases h
    · rw [e] at e1; cases e1; have := MapIs.lt h; have := HG.out; omega
  clear hmp0 hb1 hmm HMV
  rename_i K1 hK1
  refine hK1 _ _ ?_
  clear hK1 K1
  refine Go.wp_seq_k (fun K2 hK2 => ?_)
  go_cut [] from 12 to 27 (fun V => GMap V Mb m ps.length ∧ Off (· = Mb) wc V)
  case first =>
    rcases HMV1.out with ⟨rfl, rfl, hc0⟩ | ⟨B0, rfl, hgm⟩
    · have hrn := run_range_nilMap (P := Try.prog) wc 31 3 9 Try.underlying31
      have hne := fun ty => run_next_nilMap (P := Try.prog) wc ty 0 0 #[]
      have HC0 := Lib.hid hc0
      clear HMV1 HMW hc0
      go_wp2_with fail
      have hal : Below wc.heap.size wc (wc.alloc (.mapIter none 0 #[] 0)) := (Below.refl _ _).alloc (Nat.le_refl _) _
      have HAL := Lib.hid hal
      obtain ⟨V1, hV1⟩ : ∃ V, V = wc.alloc (.mapIter none 0 #[] 0) := ⟨_, rfl⟩
      rw [← hV1] at hne HAL ⊢
      clear hrn hal hV1
      go_loopw [12] (fun _ wr => wr = V1) (fun _ _ => 0)
      case atStart => rfl
      case round =>
        obtain rfl := hrel
        go_wp2
        go_meet
        rw [HC0.out]
        exact ⟨HM0.out.off (S := fun _ => False) (Off.of_below HAL.out) id, (Off.of_below HAL.out).mono (fun _ => False.elim)⟩
    · have hB0 := HMW.out B0 rfl
      have hbB : B0 ≠ Mb := by have := HG.out; omega
      obtain ⟨w2, hr2, hit, hb2⟩ := MapIs.range hgm Try.underlying31
      have hnew : MapIs Try.prog 3 w2 Mb (goneF (gmF m) (fun _ => True)) 0 := by
        rw [goneF_all, ← gmF_none]
        exact HM0.out.off (S := fun _ => False) (Off.of_below hb2) id
      have HIT := Lib.hid hit
      have HNEW := Lib.hid hnew
      have HB2 := Lib.hid hb2
      obtain ⟨gi, hgi⟩ : ∃ g, wc.heap.size = g := ⟨_, rfl⟩
      rw [hgi] at hr2 HIT
      have HGI : Hid (gi ≠ Mb ∧ gi ≠ B0 ∧ wc.heap.size = gi) := Lib.hid (by have := MapIs.lt hgm; omega)
      clear hit hnew hb2 hgi HMV1 HMW hgm
      go_wp2_with fail
      go_loopw [12] (fun _ wr => ∃ (left : Value → Prop) (cnt cd : Nat), ItIs Try.prog 3 wr B0 gi (gmF m) left cnt ∧ MapIs Try.prog 3 wr Mb (goneF (gmF m) left) cd ∧ cd + cnt = ps.length ∧ Off (· = Mb) wc wr) (fun _ wr => wr.rangeLeft B0 gi)
      case atStart => exact ⟨_, _, _, HIT.out, HNEW.out, by omega, (Off.of_below HB2.out).mono (fun _ => False.elim)⟩
      case round =>
        obtain ⟨left, cnt, cd, hit, hnew, hcd, hof⟩ := hrel
        have HIT2 := Lib.hid hit
        have HNEW2 := Lib.hid hnew
        have HOF2 := Lib.hid hof
        have hnx := hit.next (by have := HGI.out; omega)
        clear hit hnew hof HIT HNEW hr2
        rcases hnx with ⟨h0, hno, hrun⟩ | ⟨key, val, w3, hf, hlf, hpos, ⟨kl, hkl⟩, hrun, ho, hs3, hit3, hent⟩
        · have HNO := Lib.hid hno
          clear hno
          go_wp2
          go_meet
          refine ⟨?_, HOF2.out⟩
          have h1 := HNEW2.out
          rw [goneF_none HNO.out] at h1
          show MapIs _ _ _ _ _ _
          rw [show ps.length = cd by omega]
          exact h1
        · have hn3 := HNEW2.out.off ho (by have := HGI.out; show ¬ Mb = gi; omega)
          obtain ⟨w4, hu4, hm4, ho4⟩ := hn3.put intKeyed Try.underlying31 (val := val) hkl
          rw [goneF_step hf] at hm4
          have hg : (goneF (gmF m) left key) = none := by unfold goneF; rw [if_pos hlf]
          rw [hg, Option.isSome_none, if_neg (by decide)] at hm4
          have hit4 := hit3.off ho4 hbB (by have := HGI.out; show ¬ gi = Mb; omega)
          have hof4 : Off (· = Mb) wc w4 := (HOF2.out.late ho fun i hl e => by have := HGI.out; omega).trans ho4
          have HIT4 := Lib.hid hit4
          have HM4 := Lib.hid hm4
          have HB4 := Lib.hid hof4
          clear hn3 hm4 hit4 hof4 ho4 hit3 ho hf hlf hkl hg
          go_wp2
          go_roundw
          case rel => exact ⟨_, _, _, HIT4.out, HM4.out, by omega, HB4.out⟩
          case measure => rw [HIT4.out.left_eq, HIT2.out.left_eq]; omega
  case rest =>
  obtain ⟨hgm, hofm⟩ := hcut
  have hat : MtAt W wc S T g5 Mb O st (ra, rb) m ps ∧ BoxA wc g8 (0, 0) ∧ Out O T g8 ∧ StEv w wc T O O st st := by
    have hg := HG.out
    have hm0 := X8.out.lt
    have hol := HOL.out
    have e5 : ¬ O g5 ∧ ¬ O g8 ∧ ¬ O Mb := ⟨fun e => by have := hol _ e; omega, fun e => by have := hol _ e; omega, fun e => by have := hol _ e; omega⟩
    have hw := HWw.out
    have o1 : Off (fun _ => False) w V0 := Off.of_below HB0.out
    have x5 := ((X5.out.off (S := fun _ => False) (Off.of_below HB1.out) id).off hofm (by show ¬ g5 = Mb; omega))
    have x8 := ((X8.out.off (S := fun _ => False) (Off.of_below HB1.out) id).off hofm (by show ¬ g8 = Mb; omega))
    refine ⟨⟨⟨((H.out.up HB0.out).up HB1.out).offW hofm (fun k e => by rw [e]; exact ⟨⟨e5.2.2, by omega⟩, by omega⟩), x5, ⟨e5.1, by omega⟩, by omega⟩, hgm, HP.out, ⟨e5.2.2, by omega⟩, by omega, by omega⟩, x8, ⟨e5.2.1, by omega⟩, (((StEv.refl w T O st).up HB0.out).up HB1.out).own hofm (fun k e => by rw [e]; omega)⟩
  obtain ⟨h1, h2, h3, h4⟩ := hat
  have HMT := Lib.hid h1
  have HX8 := Lib.hid h2
  have HO8 := Lib.hid h3
  have HEV := Lib.hid h4
  clear hgm hofm h1 h2 h3 h4 HMV1 HMW HM0 HB1 X5 X8 HB0
  refine hK2 _ _ ?_
  clear hK2 K2
  go_wp2_with fail
  go_loopw [14] (fun iv wr => ∃ (j : Nat) (O' : Nat → Prop) (st' : ShS × Int) (r' : Int × Int) (ps' : Ps), j ≤ n ∧ iv = .int .i64 (j : Nat) ∧ MtAt W wr S T g5 Mb O' st' r' (mpZ m b j) ps' ∧ BoxA wr g8 (0, 0) ∧ Out O' T g8 ∧ TellsR (shRd st'.1.L) r' (mpZ m b j) ∧ shK.Rdy st'.1 (14 * (n - j) + N) ∧ st'.1.full < 0 ∧ StEv w wr T O O' st st' ∧ ps'.length ≤ ps.length + j) (fun iv _ => n - (intOf iv).toNat)
  case atStart => exact ⟨0, O, st, (ra, rb), ps, by omega, rfl, HMT.out, HX8.out, HO8.out, HM.out, HR.out, HF.out, HEV.out, by omega⟩
  case round =>
    clear HMT HX8 HO8 HEV HM HR HF hMlt
    obtain ⟨j, O1, st1, ⟨ra1, rb1⟩, ps1, hj, rfl, hmt, hx8, ho8, htl, hrd, hfl, hev, hlen⟩ := hrel
    have HMT := Lib.hid hmt
    have HX8 := Lib.hid hx8
    have HO8 := Lib.hid ho8
    have HTL := Lib.hid htl
    have HRD := Lib.hid hrd
    have HFL := Lib.hid hfl
    have HEV := Lib.hid hev
    clear hmt hx8 ho8 htl hrd hfl hev
    by_cases hjn : j < n
    · have hjI : (j : Int) < (n : Int) := by omega
      obtain ⟨g, o, rfl, hg, hc⟩ := HB.out (by omega)
      obtain ⟨q0, q1, hin⟩ := hc j hjn
      obtain ⟨p, hbj⟩ : ∃ p, b j = p := ⟨_, rfl⟩
      have hokj := HOK.out j hjn
      rw [hbj] at q0 q1 hin hokj
      obtain ⟨ky, Ab, nb, cb, Lb⟩ := p
      obtain ⟨hkk, hlb⟩ := hokj
      simp only at hkk hlb
      obtain ⟨kn, hkn⟩ : ∃ k : Nat, ky = (k : Int) := ⟨ky.toNat, by have := hkk.1; omega⟩
      subst hkn
      have hkn : kn < 16777216 := by have := hkk.2; omega
      have HBJ := Lib.hid hbj
      have HIN := Lib.hid hin
      have HG0 := Lib.hid (And.intro hg (And.intro q0 q1))
      have HLB := Lib.hid hlb
      have hlow := PArg.low (c := cb) hin.1
      have hnb := hin.1.1
      simp only at hnb
      have k0 := (HMT.out.rt.l.bel.cell (p := ⟨g, o + j * 2, none⟩) hg).trans q0
      have k1 := (HMT.out.rt.l.bel.cell (p := ⟨g, o + j * 2 + 1, none⟩) hg).trans q1
      have lga := lt_of_cell k0
      unfold PArg.v at k1
      simp only at k0 k1
      have hj1 : 14 * (n - j) + N = (14 * (n - (j + 1)) + N + 7) + 7 := by omega
      have HSET : Hid (∀ w', Below wr.heap.size wr w' → Calls Try.prog 22 #[.pointer (some ⟨T, 0, none⟩), .agg #[.int .i64 ra1, .int .i64 rb1], .int .i64 (kn : Nat), .slice Ab nb cb] w' fun e w3 => ∃ O' st' r', SetOk W w' w3 S T O1 O' st1 st' (14 * (n - (j + 1)) + N + 7) 6 (fun rd' r' => Tells rd' 0 0 r' (upd (mpZ m b j) kn (some Lb)) ∧ (mpZ m b j kn = some Lb → r' = (ra1, rb1))) r' e) := Lib.hid fun w' hb =>
        shl_set (HMT.out.rt.l.up hb) (by rw [← hj1]; exact HRD.out) HFL.out (r := (ra1, rb1)) HTL.out hkn ((SlB.up ⟨_, _, _, rfl, HIN.out.2.1, HIN.out.1⟩ HMT.out.rt.l.bel).up hb) hlb (HMT.out.rt.l.out hlow)
      have b0 := HMT.out.rt.box.1
      have b1 := HMT.out.rt.box.2.1
      simp only at b0 b1
      have lb := HMT.out.rt.box.lt
      have lM := MapIs.lt HMT.out.mp
      have HOG : Hid (¬ OT O1 T g) := Lib.hid fun e => e.elim (fun e => by have := HMT.out.rt.l.hO g e; omega) (fun e => by have := HMT.out.rt.l.hT; omega)
      clear hkk hj1 hc hbj hin q0 q1 hg hlow hlb
      go_upto_region 9 with (fail)
      go_cut [15, 16] from 34 to 49 (fun s15 s16 V => ∃ (g15 : Nat) (O3 : Nat → Prop) (st3 : ShS × Int) (r3 : Int × Int), s15 = .pointer (some ⟨g15, 0, none⟩) ∧ s16 = .int .i64 0 ∧ MidAt W w V S T g5 g8 g15 Mb O O3 st st3 (ra1, rb1) r3 (mpZ m b j) ps1 ∧ shK.Rdy st3.1 (14 * (n - (j + 1)) + N + 7) ∧ st3.1.full < 0 ∧ Tells (shRd st3.1.L) 0 0 r3 (upd (mpZ m b j) kn (some Lb)) ∧ SubR (shRd st1.1.L) (shRd st3.1.L))
      case first =>
        have KS : Hid (Kp4 wr g5 ra1 rb1 g (o + j * 2) (.int .i64 (kn : Nat)) (.slice Ab nb cb)) := Lib.hid ⟨b0, b1, k0, k1⟩
        go_region_held3 (fun w' => w'.cell? ⟨g5, 0, none⟩ = some (.int .i64 ra1) ∧ w'.cell? ⟨g5, 1, none⟩ = some (.int .i64 rb1) ∧ w'.cell? ⟨g, o + j * 2, none⟩ = some (.int .i64 (kn : Nat)) ∧ w'.cell? ⟨g, o + j * 2 + 1, none⟩ = some (.slice Ab nb cb))
          (first | exact KS.out | exact KS.out.alloc _ _ | exact KS.out.set (Nat.ne_of_lt lb) (Nat.ne_of_lt lga) _ _ | go_keep)
          ((go_at_call 22; (with_reducible refine (HSET.out _ (by first | exact (Below.refl _ _).drew | exact ((Below.refl _ _).alloc (Nat.le_refl _) _).drew)).mono ?_); rintro e w3 ⟨O3, st3, ⟨r3a, r3b⟩, hs⟩; have he3 := hs.e; subst he3; have HS3 := Lib.hid hs; have KS : Hid (Kp4 w3 g5 ra1 rb1 g (o + j * 2) (.int .i64 (kn : Nat)) (.slice Ab nb cb)) := Lib.hid ((KS.out.off (P := fun _ => False) (Off.of_below (by first | exact (Below.refl _ _).drew | exact ((Below.refl _ _).alloc (Nat.le_refl _) _).drew)) id id).off hs.off (fun e => e.elim HMT.out.rt.out.1 HMT.out.rt.out.2) HOG.out); (first | (have kb := SetOk.box0 HMT.out.rt.l hs; have y0 := kb.1.1; have y1 := kb.1.2.1; have z0 := kb.1.2.2 0; have z1 := kb.1.2.2 1; have HKB := Lib.hid kb; clear kb) | skip); clear hs))
        all_goals
          go_wp2_with fail
          go_meet
          obtain ⟨_, _, hsub⟩ := HS3.out.aft
          first
            | exact ⟨_, O3, st3, (r3a, r3b), rfl, rfl, MidAt.ofA HMT.out HX8.out HO8.out HEV.out (Below.refl _ _).drew HS3.out 30, HS3.out.rdy, HS3.out.full, HS3.out.g.1, hsub.sub⟩
            | exact ⟨_, O3, st3, (r3a, r3b), rfl, rfl, MidAt.ofB HMT.out HX8.out HO8.out HEV.out ((Below.refl _ _).alloc (Nat.le_refl _) _).drew HS3.out HKB.out.1 HKB.out.2 rfl, HS3.out.rdy, HS3.out.full, HS3.out.g.1, hsub.sub⟩
      case rest =>
      obtain ⟨g15, O3, st3, ⟨r3a, r3b⟩, rfl, rfl, hmd, hrd3, hf3, ht3, hsub⟩ := hcut
      have HMD := Lib.hid hmd
      have HR3 := Lib.hid hrd3
      have HF3 := Lib.hid hf3
      have HT3 := Lib.hid ht3
      have HSUB := Lib.hid hsub
      have k0 := (hmd.mt.rt.l.bel.cell (p := ⟨g, o + j * 2, none⟩) HG0.out.1).trans HG0.out.2.1
      have k1 := (hmd.mt.rt.l.bel.cell (p := ⟨g, o + j * 2 + 1, none⟩) HG0.out.1).trans HG0.out.2.2
      have lga := lt_of_cell k0
      have lM := MapIs.lt hmd.mt.mp
      unfold PArg.v at k1
      simp only at k0 k1
      have cv1 : ∀ g : Up wc, (convert 38 9 (.slice Ab nb cb)).run Try.prog g.world = .ok (.string (strB Lb)) g.world := fun g => ((HIN.out.1.up HMD.out.mt.rt.l.bel).up g.h).str cb
      clear hmd hrd3 hf3 ht3 hsub HSET b0 b1 lb HMT HX8 HO8 HEV HRD HFL
      have HN8 : Hid (w.heap.size ≤ Mb ∧ g8 ≠ Mb ∧ w.heap.size ≤ g5 ∧ g8 ≠ g5) := Lib.hid (by have := HG.out; omega)
      have HMZ : Hid (mpZ m b (j + 1) = upd (mpZ m b j) kn (if Lb = [] then none else some Lb)) := Lib.hid (by
        show upd (mpZ m b j) (b j).key.toNat _ = _
        rw [HBJ.out]
        rfl)
      go_upto_region 10 with (fail)
      refine wp_region_up_tail 12 (by kernel_rfl) (by kernel_rfl) (by kernel_rfl) ?_
      simp only [List.take_succ_cons, List.take_zero, List.drop_succ_cons, List.drop_zero]
      repeat (go_big_quiet_step (fail))
      refine wpQuiet_nil ?_
      rintro _ ⟨gU, rfl⟩
      obtain ⟨w6, hu6, hm6⟩ := (HMD.out.up gU.h).put HN8.out.1 HN8.out.2.1 hkn Lb
      have HM6 := Lib.hid hm6
      have HPL : Hid ((insP kn Lb ps1).length ≤ ps1.length + 1) := Lib.hid (by rw [HMD.out.mt.lst.set_len]; split <;> omega)
      have HTM := Lib.hid (TellsK.mono HTL.out HSUB.out)
      clear hm6 cv1 k0 k1 HMD lM lga
      go_upto_region 11 with (fail)
      clear hu6
      have k0 := (HM6.out.mt.rt.l.bel.cell (p := ⟨g, o + j * 2, none⟩) HG0.out.1).trans HG0.out.2.1
      have k1 := (HM6.out.mt.rt.l.bel.cell (p := ⟨g, o + j * 2 + 1, none⟩) HG0.out.1).trans HG0.out.2.2
      have lga := lt_of_cell k0
      unfold PArg.v at k1
      simp only at k0 k1
      go_upto_if 68 with (fail)
      go_cut [16] from 68 to 85 (fun s16 V => ∃ (O4 : Nat → Prop) (st4 : ShS × Int) (r4 : Int × Int) (ps4 : Ps), s16 = .int .i64 0 ∧ MidAt W w V S T g5 g8 g15 Mb O O4 st st4 (ra1, rb1) r4 (mpZ m b (j + 1)) ps4 ∧ TellsR (shRd st4.1.L) r4 (mpZ m b (j + 1)) ∧ shK.Rdy st4.1 (14 * (n - (j + 1)) + N) ∧ st4.1.full < 0 ∧ ps4.length ≤ ps1.length + 1)
      case first =>
        by_cases hz : nb = 0
        · have hl0 : Lb = [] := List.length_eq_zero_iff.1 (by omega)
          subst hl0
          have hd0 : ((nb : Int) == 0) = true := by subst hz; rfl
          clear hz hnb
          have HDEL : Hid (∀ w', Below w6.heap.size w6 w' → Calls Try.prog 24 #[.pointer (some ⟨T, 0, none⟩), .agg #[.int .i64 ra1, .int .i64 rb1], .int .i64 (kn : Nat)] w' fun e w3 => ∃ O' st' r', SetOk W w' w3 S T O3 O' st3 st' (14 * (n - (j + 1)) + N) 7 (fun rd' r' => TellsR rd' r' (upd (mpZ m b j) kn none) ∧ (mpZ m b j kn = none → r' = (ra1, rb1))) r' e) := Lib.hid fun w' hb =>
            shl_del (HM6.out.mt.rt.l.up hb) HR3.out HF3.out (r := (ra1, rb1)) HTM.out hkn
          have b0 := HM6.out.mt.rt.box.1
          have b1 := HM6.out.mt.rt.box.2.1
          have lb := HM6.out.mt.rt.box.lt
          have l15 := HM6.out.rt.box.lt
          simp only at b0 b1
          go_upto_region 12 with (fail)
          have KS : Hid (Kp4 w6 g5 ra1 rb1 g (o + j * 2) (.int .i64 (kn : Nat)) (.slice Ab nb cb)) := Lib.hid ⟨b0, b1, k0, k1⟩
          have HOG3 : Hid (¬ OT O3 T g ∧ g ≠ g15) := Lib.hid ⟨fun e => e.elim (fun e => by have := HM6.out.mt.rt.l.hO g e; have := HG0.out.1; omega) (fun e => by have := HM6.out.mt.rt.l.hT; have := HG0.out.1; omega), by have := HM6.out.ge; have := HG0.out.1; have := HWw.out; omega⟩
          go_region_held3 (fun w' => w'.cell? ⟨g5, 0, none⟩ = some (.int .i64 ra1) ∧ w'.cell? ⟨g5, 1, none⟩ = some (.int .i64 rb1) ∧ w'.cell? ⟨g, o + j * 2, none⟩ = some (.int .i64 (kn : Nat)) ∧ w'.cell? ⟨g, o + j * 2 + 1, none⟩ = some (.slice Ab nb cb))
            (first | exact KS.out | exact KS.out.set HM6.out.ne.1.symm HOG3.out.2 _ _ | go_keep)
            ((go_at_call 24; (with_reducible refine (HDEL.out _ (Below.refl _ _).drew).mono ?_); rintro e w7 ⟨O4, st4, ⟨r4a, r4b⟩, hs⟩; have he := hs.e; subst he; have hr15 := hs.rt HM6.out.rt (Below.refl _ _).drew; have y0 := hr15.box.1; have y1 := hr15.box.2.1; have z0 := hr15.box.2.2 0; have z1 := hr15.box.2.2 1; have HS4 := Lib.hid hs; have HM7 := Lib.hid (HM6.out.redo (Below.refl _ _).drew hs); have KS : Hid (Kp4 w7 g5 ra1 rb1 g (o + j * 2) (.int .i64 (kn : Nat)) (.slice Ab nb cb)) := Lib.hid ((KS.out.off (P := fun _ => False) (Off.of_below (Below.refl _ _).drew) id id).off hs.off (fun e => e.elim HM6.out.mt.rt.out.1 HM6.out.mt.rt.out.2) HOG3.out.1); clear hs hr15))
          all_goals
            go_upto_region 13 with (fail)
            refine wp_forget (fun V => MidAt W w V S T g5 g8 g15 Mb O O4 st st4 (ra1, rb1) (r4a, r4b) (upd (mpZ m b j) kn (some [])) (insP kn [] ps1)) (by first | exact HM7.out | exact HM7.out.up (Below.refl _ _).drew) ?_
            have HRQ := Lib.hid (And.intro HS4.out.rdy (And.intro HS4.out.full HS4.out.g.1))
            clear HM7 HM6 HS4 KS y0 y1 z0 z1 HR3 HF3
            rintro V8 hm8
            have HM8 := Lib.hid hm8
            have k0 := (hm8.mt.rt.l.bel.cell (p := ⟨g, o + j * 2, none⟩) HG0.out.1).trans HG0.out.2.1
            have lga := lt_of_cell k0
            have lM := MapIs.lt hm8.mt.mp
            try simp only at k0
            clear hm8
            obtain ⟨w9, hu9, hm9⟩ := HM8.out.del HN8.out.1 HN8.out.2.1 hkn 0
            have HM9 := Lib.hid hm9
            have HMZ2 : mpZ m b (j + 1) = upd (mpZ m b j) kn none := by
              have h := HMZ.out
              simpa using h
            have HZ := Lib.hid HMZ2
            clear HMZ2 HMZ hm9
            go_wp2_with (at_delete; go_must (refine wpList_delete_run rfl (.tmp 80) (.tmp 85) 31 3 rfl _ _ rfl rfl hu9 ?_))
            go_meet
            rw [HZ.out]
            have hm9 := HM9.out
            rw [upd_upd] at hm9
            exact ⟨O4, st4, (r4a, r4b), _, rfl, hm9, HRQ.out.2.2, HRQ.out.1, HRQ.out.2.1, Nat.le_trans (List.length_filter_le _ _) HPL.out⟩
        · have hd0 : ((nb : Int) == 0) = false := by simp; omega
          have hln : ¬ Lb = [] := fun e => by rw [e] at hnb; exact hz (by simpa using hnb.symm)
          have HMZ2 := HMZ.out
          rw [if_neg hln] at HMZ2
          have HZ := Lib.hid HMZ2
          clear HMZ2 HMZ
          go_wp2_with fail
          go_meet
          rw [HZ.out]
          exact ⟨O3, st3, (r3a, r3b), _, rfl, HM6.out, .inr HT3.out, shK_good.mono _ _ _ HR3.out (by omega), HF3.out, HPL.out⟩
      case rest =>
      obtain ⟨O4, st4, ⟨r4a, r4b⟩, ps4, rfl, hm4, ht4, hr4, hf4, hl4⟩ := hcut
      have HM4 := Lib.hid hm4
      have HT4 := Lib.hid ht4
      have HR4 := Lib.hid hr4
      have HF4 := Lib.hid hf4
      have p0 := hm4.rt.box.1
      have p1 := hm4.rt.box.2.1
      have lp := hm4.rt.box.lt
      have u0 := hm4.mt.rt.box.1
      have u1 := hm4.mt.rt.box.2.1
      have z0 := hm4.mt.rt.box.2.2 0
      have z1 := hm4.mt.rt.box.2.2 1
      have lu := hm4.mt.rt.box.lt
      simp only at p0 p1 u0 u1
      clear hm4 ht4 hr4 hf4 HM6 HR3 HF3 HTM HMZ k0 k1 lga
      go_upto_region 8 with (fail)
      have hrt := HM4.out.root HN8.out.2.2.1 HN8.out.2.2.2
      refine wp_forget (fun V => MtAt W V S T g5 Mb O4 st4 (r4a, r4b) (mpZ m b (j + 1)) ps4 ∧ BoxA V g8 (0, 0) ∧ StEv w V T O O4 st st4) hrt ?_
      have HO84 := Lib.hid HM4.out.o8
      clear p0 p1 lp u0 u1 z0 z1 lu HM4 hrt
      rintro V5 ⟨hm5, hx5, he5⟩
      have HM5 := Lib.hid hm5
      have HX5 := Lib.hid hx5
      have HE5 := Lib.hid he5
      have hwj : IntKind.i64.wrap ((j : Int) + 1) = (j : Int) + 1 := IntWalk.i64_in _ (by omega)
      clear hm5 hx5 he5
      go_wp2
      go_roundw
      case rel => exact ⟨j + 1, O4, st4, (r4a, r4b), ps4, by omega, by go_num, HM5.out, HX5.out, HO84.out, HT4.out, HR4.out, HF4.out, HE5.out, by omega⟩
      case measure => simp [intOf]; omega
    · obtain rfl : j = n := by omega
      have hjn2 : ¬ (j : Int) < (j : Int) := by omega
      have b0 := HMT.out.rt.box.1
      have b1 := HMT.out.rt.box.2.1
      have lb := HMT.out.rt.box.lt
      have d0 := HX8.out.1
      have d1 := HX8.out.2.1
      have f0 := HX8.out.2.2 0
      have f1 := HX8.out.2.2 1
      have ld := HX8.out.lt
      simp only at b0 b1 d0 d1
      go_wp2
      have hst := HX8.out.set (ra1, rb1)
      have hfin : Off (· = g8) wr ((wr.setCell ⟨g8, 0, none⟩ (.int .i64 ra1)).setCell ⟨g8, 1, none⟩ (.int .i64 rb1)) := hst.2
      have y0 := hst.1.1
      have y1 := hst.1.2.1
      simp only at y0 y1
      refine bodyPost_ret (results_ctt rfl _ _ _ _ _ rfl y0 y1) rfl ?_
      have hg := HG.out
      have hw := HWw.out
      have m1 := HMT.out
      refine ⟨O1, st1, (ra1, rb1), Mb, ps1, rfl, hlen, ⟨m1.rt.l.offW hfin (fun k e => by rw [e]; exact ⟨HO8.out, by omega⟩), shK_good.mono _ _ _ HRD.out (by omega), HFL.out, HTL.out, m1.lst, m1.mp.off hfin (by show ¬ Mb = g8; omega), m1.oM, by omega, HEV.out.own hfin (fun k e => by rw [e]; omega)⟩⟩
end Go.Proofs.Ytgkdggidgaifhaa
