/- BlobsSpoil, walked. -/
import Derived.Test.YtlmgihnnphmmhaaSbZ
namespace Go.Proofs.Ytlmgihnnphmmhaa
open Go.RowKit
set_option linter.unusedVariables false
set_option linter.unusedSimpArgs false

set_option maxRecDepth 100000 in
set_option maxHeartbeats 2000000 in
theorem spoil_no (w : World) {a0 a1 a2 a3 a4 a5 a6 a7 a8 : Int} (h : ¬ FitsP a0 a1 a2 a3 a4 a5 a6 a7 a8) (u v : Value) :
    Calls Try.prog 7 #[cfgI a0 a1 a2 a3 a4 a5 a6 a7 a8, u, v] w fun e w' => e = .returned (.bool true) ∧ Below w.heap.size w w' := by
  have HK : Hid (∀ w', Calls Try.prog 10 #[] w' fun e w'' => e = .returned (.bool true) ∧ Below w'.heap.size w' w'') := fun w' => known9_any w'
  have HF : Hid (∀ w', Calls Try.prog 11 #[cfgI a0 a1 a2 a3 a4 a5 a6 a7 a8] w' fun e w'' => e = .returned (.bool false) ∧ Below w'.heap.size w' w'') := fun w' => fits_false w' a0 a1 a2 a3 a4 a5 a6 a7 a8 h
  have HMD := Lib.hid (BoxI.made w a0 a1 a2 a3 a4 a5 a6 a7 a8)
  have HB : Hid (Below w.heap.size w (w.alloc (.cells #[.int .i64 a0, .int .i64 a1, .int .i64 a2, .int .i64 a3, .int .i64 a4, .int .i64 a5, .int .i64 a6, .int .i64 a7, .int .i64 a8] 23))) := (Below.refl _ _).alloc (Nat.le_refl _) _
  clear h
  unfold cfgI at *
  go_enter Try.func7, Try.ntmps7
  go_upto_region 1 with (fail)
  refine wp_forget (fun W => BoxI W w.heap.size a0 a1 a2 a3 a4 a5 a6 a7 a8 ∧ Below w.heap.size w W ∧ w.heap.size < W.heap.size) ⟨HMD.out, HB.out, by simp⟩ ?_
  clear HMD HB
  rintro W ⟨⟨q0, q1, q2, q3, q4, q5, q6, q7, q8⟩, hbW, lW⟩
  have HBW := Lib.hid hbW
  clear hbW
  refine wp_upW (W := W) fun g => ?_
  go_wp2_with fail
  refine calls_upW (HK.out _) fun g => ?_
  go_wp2_with fail
  refine calls_upW (HF.out _) fun g => ?_
  have HG : Hid (Below w.heap.size w g.world) := below_upto HBW.out g.h (Nat.le_refl _)
  go_wp2
  go_ret
  exact ⟨rfl, HG.out⟩
/-- A list from its t-th element on, and round. -/
def rotL (l : List (Nat × Nat)) (t : Nat) : List (Nat × Nat) := l.drop t ++ l.take t
theorem rotL_used (c : Cfg) (k : Nat) (l : List (Nat × Nat)) (t : Nat) : usedBy c k (rotL l t) = usedBy c k l := by
  unfold rotL
  rw [usedBy_app, Nat.add_comm, ← usedBy_app, List.take_append_drop]
theorem rotL_at (l : List (Nat × Nat)) (t i : Nat) (ht : t < l.length) (hi : i < l.length) : (rotL l t)[i]? = l[(i + t) % l.length]? := by
  unfold rotL
  by_cases h : i + t < l.length
  · rw [Nat.mod_eq_of_lt h, List.getElem?_append_left (by rw [List.length_drop]; omega), List.getElem?_drop, Nat.add_comm t i]
  · have e : (i + t) % l.length = i + t - l.length := by
      rw [Nat.mod_eq_sub_mod (by omega), Nat.mod_eq_of_lt (by omega)]
    rw [e, List.getElem?_append_right (by rw [List.length_drop]; omega), List.length_drop, List.getElem?_take, if_pos (by omega)]
    congr 1
    omega
theorem rotL_length (l : List (Nat × Nat)) (t : Nat) : (rotL l t).length = l.length := by
  unfold rotL
  rw [List.length_append, List.length_drop, List.length_take]
  omega
theorem drop_cons (l : List (Nat × Nat)) (i : Nat) (p : Nat × Nat) (h : l[i]? = some p) : l.drop i = p :: l.drop (i + 1) := by
  obtain ⟨hl, he⟩ := List.getElem?_eq_some_iff.1 h
  rw [List.drop_eq_getElem_cons hl, he]
/-- The loop of BlobsSpoil at round i. -/
structure SpAt (x : WoS) (t i : Nat) (s : StS) : Prop where
  c : s.c = x.s.c
  d : s.d = x.s.d
  us : ∀ k, s.t.us k = usedBy x.s.c k ((rotL x.ad t).drop i)
  en : ∀ k, x.s.t.ent k ≠ none → s.t.ent k ≠ none
theorem SpAt.zero {f : Nat → Bool} {x : WoS} (h : WoInv f x) (t : Nat) : SpAt x t 0 x.s := ⟨rfl, rfl, fun k => by rw [List.drop_zero, rotL_used]; exact h.us k, fun _ => id⟩
theorem SpAt.step {f : Nat → Bool} {x : WoS} {t i : Nat} {s : StS} (h : SpAt x t i s) (hi : WoInv f x) (hs : StOk x.s) {a N : Nat} (hp : (rotL x.ad t)[i]? = some (a, N)) :
    ∃ k st us, RightN x.s.c a N k ∧ s.t.ent k = some (st, us) ∧ secs x.s.c.z N ≤ us ∧ s.t.us k = us ∧ SpAt x t (i + 1) { s with t := s.t.setE k (st, us - secs x.s.c.z N) } := by
  have hmem : (a, N) ∈ x.ad := by
    have h1 := List.mem_of_getElem? hp
    unfold rotL at h1
    rcases List.mem_append.1 h1 with h2 | h2
    · exact List.mem_of_mem_drop h2
    · exact List.mem_of_mem_take h2
  obtain ⟨j, hj⟩ := List.mem_iff_getElem?.1 hmem
  have hjb : j < x.bl.length := by rw [← hi.len]; exact (List.getElem?_eq_some_iff.1 hj).1
  obtain ⟨k, hq⟩ := hi.pl j a N x.bl[j] hj (List.getElem?_eq_getElem hjb)
  have hsg := hq.r.seg hs.ok
  cases he : s.t.ent k with
  | none => exact absurd he (h.en k hq.en)
  | some e =>
    obtain ⟨st, us⟩ := e
    have hus : s.t.us k = us := by unfold TbS.us; rw [he]; rfl
    have hdc := drop_cons _ _ _ hp
    have hu := h.us k
    rw [hdc, hus] at hu
    unfold usedBy at hu
    simp only [hsg, if_true] at hu
    refine ⟨k, st, us, hq.r, he, by omega, hus, h.c, h.d, fun j => ?_, fun j hj => ?_⟩
    · have hj := h.us j
      rw [hdc] at hj
      unfold usedBy at hj
      simp only [hsg] at hj
      show (s.t.setE k (st, us - secs x.s.c.z N)).us j = _
      by_cases hjk : j = k
      · subst hjk
        unfold TbS.us TbS.setE
        simp
        omega
      · rw [if_neg (fun e => hjk e.symm)] at hj
        rw [← Nat.add_zero (usedBy _ _ _), ← hj]
        unfold TbS.us TbS.setE
        simp [hjk]
    · show (s.t.setE k (st, us - secs x.s.c.z N)).ent j ≠ none
      unfold TbS.setE
      simp only
      split
      · simp
      · exact h.en j hj
set_option maxRecDepth 100000 in
set_option maxHeartbeats 8000000 in
theorem spoil_yes (w : World) {c : Cfg} (hok : c.Ok) (hfs : c.sectors ≤ 3000) (hfz : c.z ≤ 512) {A : Option Addr} {n cp : Nat} (turn : Int) (htr : -9223372036854775808 ≤ turn ∧ turn ≤ 9223372036854775807) {b : Nat → BArg} (hl : SLs w A n b) (hn : n ≤ 1048576) (hs : lenSum b n ≤ 1099511627776) :
    Calls Try.prog 7 #[c.val, .slice A n cp, .int .i64 turn] w fun e w' => e = .returned (.bool true) ∧ Below w.heap.size w w' := by
  have HK : Hid (∀ w', Calls Try.prog 10 #[] w' fun e w'' => e = .returned (.bool true) ∧ Below w'.heap.size w' w'') := fun w' => known9_any w'
  have HF : Hid (∀ w', Calls Try.prog 11 #[c.val] w' fun e w'' => e = .returned (.bool true) ∧ Below w'.heap.size w' w'') := fun w' => fits_true w' hok hfs hfz
  have HBG : Hid (∀ w', Calls Try.prog 12 #[c.val] w' (BgPost (fun _ => false) c w')) := fun w' => begun_any w' hok
  have HSG : Hid (∀ w', Calls Try.prog 19 #[c.val] w' fun e w'' => e = .returned (.int .i64 (c.segs : Nat)) ∧ Below w'.heap.size w' w'') := fun w' => rSegments_any w' hok.pl
  have HFW : Hid (∀ w', Below w.heap.size w w' → Calls Try.prog 16 #[.slice A n cp] w' fun e w'' => e = .returned (.bool (fewB b n)) ∧ Below w'.heap.size w' w'') := fun w' hb => (few_any w' (hl.up hb) hn hs).mono fun e w'' ⟨h1, h2⟩ => by rw [h2]; exact ⟨h1, Below.refl _ _⟩
  have HL := Lib.hid hl
  have HOK := Lib.hid hok
  have hsg := hok.room.2
  have HMD := Lib.hid (BoxC.made w c)
  have HB : Hid (Below w.heap.size w (w.alloc (.cells c.cells 23))) := (Below.refl _ _).alloc (Nat.le_refl _) _
  clear hok hl hs
  unfold Cfg.val at HF HBG HSG ⊢
  unfold Cfg.cells at HMD HB
  go_enter Try.func7, Try.ntmps7
  go_upto_region 1 with (fail)
  refine wp_forget (fun W => BoxC W w.heap.size c ∧ Below w.heap.size w W ∧ w.heap.size < W.heap.size) ⟨HMD.out, HB.out, by simp⟩ ?_
  clear HMD HB
  rintro W ⟨⟨q0, q1, q2, q3, q4, q5, q6, q7, q8⟩, hbW, lW⟩
  have HBW := Lib.hid hbW
  clear hbW
  refine wp_upW (W := W) fun g => ?_
  go_wp2_with fail
  refine calls_upW (HK.out _) fun g => ?_
  go_wp2_with fail
  refine calls_upW (HF.out _) fun g => ?_
  go_wp2_with fail
  refine calls_upW (HFW.out _ (below_upto HBW.out g.h (Nat.le_refl _))) fun g => ?_
  clear HK HF HFW
  cases hfw : fewB b n with
  | false =>
    have HG : Hid (Below w.heap.size w g.world) := below_upto HBW.out g.h (Nat.le_refl _)
    go_wp2
    go_ret
    exact ⟨rfl, HG.out⟩
  | true =>
    have hfw2 : n ≤ 80 ∧ lenSum b n ≤ 32768 := of_decide_eq_true hfw
    obtain ⟨hn80, hsum⟩ := hfw2
    have HLE : Hid (∀ i, i < n → (b i).n ≤ 65536) := fun i hi => by have := le_lenSum b hi; omega
    clear hfw hsum hn
    go_wp2_with fail
    refine (HBG.out _).mono ?_
    rintro _ w1 ⟨Wb, rfl, hwo⟩
    have HP0 := Lib.hid (PutsAt.zero hwo)
    have HB0 : Hid (Below w.heap.size w g.world) := below_upto HBW.out g.h (Nat.le_refl _)
    have hlg : w.heap.size < g.world.heap.size := Nat.lt_of_lt_of_le lW g.size
    have r0 := (g.cell (b := w.heap.size) (o := 0) lW).trans q0
    have r1 := (g.cell (b := w.heap.size) (o := 1) lW).trans q1
    have r2 := (g.cell (b := w.heap.size) (o := 2) lW).trans q2
    have r3 := (g.cell (b := w.heap.size) (o := 3) lW).trans q3
    have r4 := (g.cell (b := w.heap.size) (o := 4) lW).trans q4
    have r5 := (g.cell (b := w.heap.size) (o := 5) lW).trans q5
    have r6 := (g.cell (b := w.heap.size) (o := 6) lW).trans q6
    have r7 := (g.cell (b := w.heap.size) (o := 7) lW).trans q7
    have r8 := (g.cell (b := w.heap.size) (o := 8) lW).trans q8
    have HBX : Hid (BoxC g.world w.heap.size c) := ⟨r0, r1, r2, r3, r4, r5, r6, r7, r8⟩
    obtain ⟨V, hV⟩ : ∃ V, V = g.world := ⟨_, rfl⟩
    rw [← hV] at HP0 HB0 hlg HBX
    clear hwo r0 r1 r2 r3 r4 r5 r6 r7 r8 q0 q1 q2 q3 q4 q5 q6 q7 q8 HBW HBG hV g
    go_wp2_with fail
    go_loopw [8] (fun i wr => ∃ j : Nat, j ≤ n ∧ i = .int .i64 (j : Nat) ∧ PutsAt (fun _ => false) V Wb c j wr) (fun i _ => n - (intOf i).toNat)
    case atStart => exact ⟨0, Nat.zero_le _, rfl, HP0.out⟩
    case round =>
      obtain ⟨j, hj, rfl, hp⟩ := hrel
      clear HP0
      have HP := Lib.hid hp
      by_cases hlt : j < n
      · obtain ⟨G, o, rfl, hG, hc⟩ := HL.out (by omega)
        have hbl := hp.bel
        have c0 := (hbl.cell (p := ⟨G, o + j, none⟩) (Nat.lt_of_lt_of_le hG HB0.out.size)).trans ((HB0.out.cell (p := ⟨G, o + j, none⟩) hG).trans (hc j hlt).1)
        have HPU : Hid (Calls Try.prog 17 #[.pointer (some ⟨Wb, 0, none⟩), (b j).v] wr fun e w' => e = .returned (.bool true) ∧ PutsAt (fun _ => false) V Wb c (j + 1) w') := hp.put ((hc j hlt).2.up HB0.out) (HLE.out j hlt) hfs hfz (by omega)
        unfold BArg.v at c0 HPU
        have i1 : (j : Int) < (n : Int) := by omega
        clear hp hc hbl
        go_wp2_with fail
        refine HPU.out.mono ?_
        rintro _ w2 ⟨rfl, hp2⟩
        have HP2 := Lib.hid hp2
        clear hp2
        go_wp2
        go_roundw
        case rel => exact ⟨j + 1, by omega, by go_num, HP2.out⟩
        case measure => simp [intOf]; omega
      · have hje : ¬ (j : Int) < (n : Int) := by omega
        obtain ⟨x, ⟨D, P, T, M, O, vA, vL, hm, hi⟩, hxc, hpd, had⟩ := hp
        clear HP
        have HM := Lib.hid hm
        have HI := Lib.hid hi
        have hbl := hm.bel
        have HBR : Hid (Below w.heap.size w wr) := below_upto HB0.out hbl (Nat.le_refl _)
        obtain ⟨q0, q1, q2, q3, q4, q5, q6, q7, q8⟩ : BoxC wr w.heap.size c := HBX.out.up fun j => hbl.cell (p := ⟨w.heap.size, j, none⟩) hlg
        have lwr : w.heap.size < wr.heap.size := Nat.lt_of_lt_of_le hlg hbl.size
        have lWb := hm.lts.1
        have c10 := hm.c10
        have hm80 : x.ad.length ≤ 80 := by omega
        obtain ⟨Aa, ca, hva⟩ : ∃ Aa ca, vA = .slice Aa x.ad.length ca := by
          rcases hm.rA.2 with ⟨hh, h0⟩ | ⟨g, cap, cur, hh, _⟩
          · exact ⟨_, _, by rw [hh, h0]⟩
          · exact ⟨_, _, hh⟩
        have c11 : wr.cell? ⟨Wb, 11, none⟩ = some (.slice Aa x.ad.length ca) := by rw [hm.c11, hva]
        have HVA := Lib.hid hva
        have HXC := Lib.hid hxc
        clear hm hi hbl hva hxc hpd had HL HLE
        by_cases hm0 : x.ad.length = 0
        · have e0 : ((x.ad.length : Nat) : Int) = 0 := by omega
          clear hm0
          go_wp2
          go_ret
          exact ⟨rfl, HBR.out⟩
        · have hmp : 0 < x.ad.length := by omega
          obtain ⟨m, hme⟩ : ∃ m, x.ad.length = m := ⟨_, rfl⟩
          have HME := Lib.hid hme
          rw [hme] at c11 hm80 hmp
          clear hme hm0
          have m0 : ¬ m = 0 := by omega
          have m0' : ¬ (m : Int) = 0 := by omega
          obtain ⟨tm, htm⟩ : ∃ tm, turn.tmod (m : Int) = tm := ⟨_, rfl⟩
          have htb : -(m : Int) < tm ∧ tm < (m : Int) := by
            rw [← htm]
            exact ⟨Int.lt_tmod_of_pos _ (by omega), Int.tmod_lt_of_pos _ (by omega)⟩
          have w0 : IntKind.i64.wrap tm = tm := IntWalk.i64_in _ (by omega)
          have w1 : IntKind.i64.wrap (tm + (m : Int)) = tm + (m : Int) := IntWalk.i64_in _ (by omega)
          have HSM : Hid (∀ (s : StS) (wq : World), WoM V wq Wb D P T M O vA vL ⟨s, x.ad, x.bl⟩ → s.c = x.s.c → s.d = x.s.d → Calls Try.prog 21 #[.pointer (some ⟨Wb, 0, none⟩)] wq fun e w' => e = .returned (.bool true) ∧ WoM V w' Wb D P T M O vA vL ⟨s, x.ad, x.bl⟩) := fun s wq hq hc hd =>
            same9_any hq HI.out.len (fun i a N b h1 h2 => by
              have h3 := HI.out.told HM.out.st.ok (fun b hb => (HM.out.bin b hb).2) i a N b h1 h2
              simp only
              rw [hc, hd]
              exact h3) (by show s.d.off = false; rw [hd]; exact HI.out.on) (by show x.ad.length ≤ 100000; rw [HME.out]; omega)
          obtain ⟨t, ht, hcase⟩ : ∃ t : Nat, t < m ∧ ((0 ≤ tm ∧ tm = (t : Int)) ∨ (tm < 0 ∧ tm + (m : Int) = (t : Int))) := by
            by_cases h0 : 0 ≤ tm
            · exact ⟨tm.toNat, by omega, .inl ⟨h0, by omega⟩⟩
            · exact ⟨(tm + (m : Int)).toNat, by omega, .inr ⟨by omega, by omega⟩⟩
          have HS0 := Lib.hid (SpAt.zero HI.out t)
          rcases hcase with ⟨h1, h2⟩ | ⟨h1, h2⟩
          all_goals (first | (subst h2; have h3 : ¬ (t : Int) < 0 := (by omega); clear w1; go_wp2_with fail) | (have HH2 := Lib.hid h2; clear h2; go_wp2_with fail; rw [HH2.out]; clear HH2 w1))
          all_goals
            go_loopw [10] (fun i wq => ∃ (i' : Nat) (s : StS), i' ≤ m ∧ i = .int .i64 (i' : Nat) ∧ WoM V wq Wb D P T M O vA vL ⟨s, x.ad, x.bl⟩ ∧ SpAt x t i' s) (fun i _ => m - (intOf i).toNat)
            case atStart => exact ⟨0, x.s, Nat.zero_le _, rfl, HM.out, HS0.out⟩
            case round =>
              obtain ⟨i', s, hi', rfl, hmq, hsp⟩ := hrel
              have HMQ := Lib.hid hmq
              have HSP := Lib.hid hsp
              have hsc : s.c = c := hsp.c.trans HXC.out
              have HSC := Lib.hid hsc
              have hbq : Below w.heap.size w wr := below_upto HB0.out hmq.bel (Nat.le_refl _)
              have HBQ := Lib.hid hbq
              have hbx : BoxC wr w.heap.size c := HBX.out.up fun j => hmq.bel.cell (p := ⟨w.heap.size, j, none⟩) hlg
              have lwq : w.heap.size < wr.heap.size := Nat.lt_of_lt_of_le hlg hmq.bel.size
              have HBXQ := Lib.hid hbx
              by_cases hlt2 : i' < m
              · obtain ⟨q, hq⟩ : ∃ q, (i' + t) % m = q := ⟨_, rfl⟩
                have hqm : q < m := by rw [← hq]; exact Nat.mod_lt _ (by omega)
                obtain ⟨⟨a, N⟩, hp⟩ : ∃ p, x.ad[q]? = some p := ⟨_, List.getElem?_eq_getElem (by rw [HME.out]; exact hqm)⟩
                have hpr : (rotL x.ad t)[i']? = some (a, N) := by rw [rotL_at _ _ _ (by rw [HME.out]; exact ht) (by rw [HME.out]; exact hlt2), HME.out, hq, hp]
                obtain ⟨k, st, us, hrn, hen, hle, hus, hnx⟩ := hsp.step HI.out HM.out.st.ok hpr
                obtain ⟨hA1, hN1, hn1, _⟩ := HI.out.ads HM.out.st.ok q _ hp
                have e1 : ((i' : Int) + (t : Int)).tmod (m : Int) = (q : Int) := by rw [← hq, ← Int.natCast_add, tmod_nat]
                have e2 : ((i' : Int) + (t : Int)) % (m : Int) = (q : Int) := by rw [← hq]; simp
                have v1 : IntKind.i64.wrap ((i' : Int) + (t : Int)) = (i' : Int) + (t : Int) := IntWalk.i64_in _ (by omega)
                have v2 : IntKind.i64.wrap (q : Int) = (q : Int) := IntWalk.i64_in _ (by omega)
                have u0 : (i' : Int) < (m : Int) := by omega
                have u1 : (q : Int) < (m : Int) := by omega
                obtain ⟨G, cap, hG, hcap, _⟩ := World.ownsRow.form hmq.rA (show 0 < x.ad.length by rw [HME.out]; omega)
                have k0 := World.ownsRow.cells hmq.rA (g := G) (by rw [hG]; rfl) (q * 2) _ (adCells_at _ q _ hp).1
                have k1 := World.ownsRow.cells hmq.rA (g := G) (by rw [hG]; rfl) (q * 2 + 1) _ (adCells_at _ q _ hp).2
                have lG := (hmq.lts.2.1 G (by rw [hG]; rfl)).2
                rw [addr_plain'] at k0 k1
                have c11q : wr.cell? ⟨Wb, 11, none⟩ = some (.slice Aa m ca) := by rw [hmq.c11, HVA.out, HME.out]
                rw [HVA.out] at hG
                injection hG with e3 e4 e5
                subst e3
                have c10q := hmq.c10
                have lWq := hmq.lts.1
                have HHRN := Lib.hid hrn
                have HHEN := Lib.hid hen
                have HHLE := Lib.hid hle
                have HNX := Lib.hid hnx
                have HUS0 := Lib.hid hus
                have HUB : Hid (us ≤ 1048576) := by have := hmq.st.tb.us_le k; rw [← hus]; exact this
                have HABX := Lib.hid (addr_made wr a N)
                clear hmq hsp hsc hbq hbx hq hp hpr hrn hen hle hnx hus e4 e5 hcap HS0
                go_upto_region 22 with (fail)
                go_region_law (fail)
                all_goals
                  go_upto_region 23 with (fail)
                  have hbA : Below wr.heap.size wr (wr.alloc (.cells #[.int .i64 (a : Nat), .int .i64 (N : Nat)] 30)).drew := ((Below.refl _ _).alloc (Nat.le_refl _) _).drew
                  refine wp_forget (fun Y => WoM V Y Wb D P T M O vA vL ⟨s, x.ad, x.bl⟩ ∧ (Y.cell? ⟨wr.heap.size, 0, none⟩ = some (.int .i64 (a : Nat)) ∧ Y.cell? ⟨wr.heap.size, 1, none⟩ = some (.int .i64 (N : Nat)) ∧ wr.heap.size < Y.heap.size) ∧ BoxC Y w.heap.size c ∧ w.heap.size < Y.heap.size)
                    ⟨HMQ.out.up hbA, ⟨HABX.out.1, HABX.out.2, by simp⟩, HBXQ.out.up fun j => hbA.cell (p := ⟨w.heap.size, j, none⟩) lwq, Nat.lt_of_lt_of_le lwq hbA.size⟩ ?_
                  have habn := HMQ.out.lts.1
                  have habm := HMQ.out.st.lts
                  obtain ⟨ab, hab⟩ : ∃ ab, ab = wr.heap.size := ⟨_, rfl⟩
                  rw [← hab] at habn habm ⊢
                  have hwab : w.heap.size < ab := by omega
                  clear hbA HMQ HABX HBXQ lwq lG k0 k1 c11q c10q lWq hab HBQ
                  rintro Y ⟨hmy, ⟨t0, t1, lab⟩, ⟨q0, q1, q2, q3, q4, q5, q6, q7, q8⟩, lwy⟩
                  have HMY := Lib.hid hmy
                  have c10y := hmy.c10
                  have lWy := hmy.lts.1
                  have HOFY : Hid (∀ w', Calls Try.prog 29 #[c.val, .int .i64 (a : Nat)] w' fun e w'' => e = .returned (.int .i64 (k : Nat)) ∧ Below w'.heap.size w' w'') := fun w' => by
                    have hrn := HHRN.out
                    rw [HXC.out] at hrn
                    have := rOf_any w' HOK.out (a : Int) (by omega)
                    rwa [hrn.of HOK.out] at this
                  have hkk : k < 65536 := by have := HHRN.out.hk; rw [HXC.out] at this; omega
                  have HTBY : Hid (∀ g : Up Y, Calls Try.prog 18 #[.pointer (some ⟨P, 0, none⟩)] g.world fun e w' => e = .returned (.pointer (some ⟨T, 0, none⟩)) ∧ Below g.world.heap.size g.world w') := fun g => (stTable_any (HMY.out.st.up g.h)).mono fun e w' ⟨h1, h2⟩ => by rw [h2]; exact ⟨h1, Below.refl _ _⟩
                  have HUSY : Hid (∀ g : Up Y, Calls Try.prog 20 #[.pointer (some ⟨T, 0, none⟩), .int .i64 (k : Nat)] g.world fun e w' => e = .returned (.int .i64 (us : Nat)) ∧ Below g.world.heap.size g.world w') := fun g => (tbUsed_any (HMY.out.st.up g.h).tb (k := k) (by omega)).mono fun e w' ⟨h1, h2⟩ => by rw [h2, h1]; refine ⟨?_, Below.refl _ _⟩; rw [HUS0.out]
                  unfold Cfg.val at HOFY
                  clear hmy
                  refine wp_upW (W := Y) fun g => ?_
                  go_wp2_with fail
                  refine calls_upW (HOFY.out _) fun g => ?_
                  go_wp2_with fail
                  refine calls_upW (HTBY.out _) fun g => ?_
                  go_wp2_with fail
                  refine calls_upW (HUSY.out _) fun g => ?_
                  go_upto_region 25 with (fail)
                  refine wp_region_upW_tail 5 (by kernel_rfl) (by kernel_rfl) (by kernel_rfl) ?_
                  simp only [List.take_succ_cons, List.take_zero, List.drop_succ_cons, List.drop_zero]
                  repeat (go_big_quiet_step (fail))
                  refine wpQuiet_nil ?_
                  rintro _ ⟨g, rfl⟩
                  have HMG : Hid (WoM V g.world Wb D P T M O vA vL ⟨s, x.ad, x.bl⟩) := HMY.out.up g.h
                  obtain ⟨nn, hnn⟩ : ∃ nn, secs c.z N = nn := ⟨_, rfl⟩
                  have hxs : secs x.s.c.z N = nn := by rw [HXC.out, hnn]
                  have hlen : nn ≤ us := by have := HHLE.out; rw [hxs] at this; exact this
                  have HSPL : Hid (Calls Try.prog 30 #[.pointer (some ⟨P, 0, none⟩), addrV a N] g.world (SpPost V.heap.size g.world P D T M O s k (st, us - nn))) := by
                    have h5 := stSpoil_any (HMG.out.st) (a := a) (n := N) (k := k) (by have := HHRN.out; rw [HXC.out, ← HSC.out] at this; exact this) HHEN.out (by show secs s.c.z N ≤ us; rw [HSC.out, hnn]; exact hlen)
                    have e5 : secs s.c.z N = nn := by rw [HSC.out, hnn]
                    simp only at h5
                    rw [e5] at h5
                    exact h5
                  have HNX2 : Hid (SpAt x t (i' + 1) { s with t := s.t.setE k (st, us - nn) }) := by have := HNX.out; rw [hxs] at this; exact this
                  have HSEC : Hid (∀ w', Calls Try.prog 15 #[c.val, addrV a N] w' fun e w'' => e = .returned (.int .i64 (nn : Nat)) ∧ Below w'.heap.size w' w'') := fun w' => by
                    have := sectors9_any w' HOK.out a N (by omega)
                    rwa [hnn] at this
                  unfold Cfg.val addrV at HSEC
                  unfold addrV at HSPL
                  clear hnn hxs HTBY HUSY HNX
                  go_wp2_with fail
                  refine HSPL.out.mono ?_
                  rintro _ w2 ⟨rfl, hst, hoff⟩
                  have hm2 : WoM V w2 Wb D P T M O vA vL ⟨{ s with t := s.t.setE k (st, us - nn) }, x.ad, x.bl⟩ := HMG.out.putted rfl hst (fun g => .inl) (hoff.mono fun g e => .inr (.inl e))
                  have HM2 := Lib.hid hm2
                  have lwM : ¬ w.heap.size = M := by have := HMG.out.st.tb.lo.2; have := hlg; omega
                  have labM : ¬ ab = M := by have := habm.2.2.1; omega
                  have lwg : w.heap.size < g.world.heap.size := Nat.lt_of_lt_of_le lwy g.size
                  have labg : ab < g.world.heap.size := Nat.lt_of_lt_of_le lab g.size
                  have hbx2 : BoxC w2 w.heap.size c := (show BoxC Y w.heap.size c from ⟨q0, q1, q2, q3, q4, q5, q6, q7, q8⟩).up fun j => (hoff.cell (p := ⟨w.heap.size, j, none⟩) lwg lwM).trans (g.h.cell (p := ⟨w.heap.size, j, none⟩) lwy)
                  have t02 := (hoff.cell (p := ⟨ab, 0, none⟩) labg labM).trans ((g.h.cell (p := ⟨ab, 0, none⟩) lab).trans t0)
                  have t12 := (hoff.cell (p := ⟨ab, 1, none⟩) labg labM).trans ((g.h.cell (p := ⟨ab, 1, none⟩) lab).trans t1)
                  have lab2 : ab < w2.heap.size := Nat.lt_of_lt_of_le labg hoff.size
                  have lw2 : w.heap.size < w2.heap.size := Nat.lt_of_lt_of_le lwg hoff.size
                  clear q0 q1 q2 q3 q4 q5 q6 q7 q8 t0 t1 c10y lWy hst hoff HSPL HMG HMY lab
                  obtain ⟨q0, q1, q2, q3, q4, q5, q6, q7, q8⟩ := hbx2
                  have c102 := hm2.c10
                  have lW2 := hm2.lts.1
                  have hub : us ≤ 1048576 := HUB.out
                  have HTB2 : Hid (∀ g : Up w2, Calls Try.prog 18 #[.pointer (some ⟨P, 0, none⟩)] g.world fun e w' => e = .returned (.pointer (some ⟨T, 0, none⟩)) ∧ Below g.world.heap.size g.world w') := fun g => (stTable_any (HM2.out.st.up g.h)).mono fun e w' ⟨h1, h2⟩ => by rw [h2]; exact ⟨h1, Below.refl _ _⟩
                  have HUS2 : Hid (∀ g : Up w2, Calls Try.prog 20 #[.pointer (some ⟨T, 0, none⟩), .int .i64 (k : Nat)] g.world fun e w' => e = .returned (.int .i64 ((us : Int) - (nn : Int))) ∧ Below g.world.heap.size g.world w') := fun g => (tbUsed_any (HM2.out.st.up g.h).tb (k := k) (by omega)).mono fun e w' ⟨h1, h2⟩ => by
                    rw [h2, h1]
                    refine ⟨?_, Below.refl _ _⟩
                    have e6 : (s.t.setE k (st, us - nn)).us k = us - nn := by unfold TbS.us TbS.setE; simp
                    rw [e6]
                    exact ret_int (by omega)
                  have v5 : IntKind.i64.wrap ((us : Int) - (nn : Int)) = (us : Int) - (nn : Int) := IntWalk.i64_in _ (by omega)
                  clear hm2
                  go_upto_region 26 with (fail)
                  refine wp_region_up (by kernel_rfl) (by kernel_rfl) ?_
                  repeat (go_big_quiet_step (first | (go_at_call 18; exact Calls.up_of (HTB2.out _)) | (go_at_call 20; exact Calls.up_of (HUS2.out _)) | (go_at_call 15; exact Calls.up_of (HSEC.out _))))
                  refine wpQuiet_nil ?_
                  rintro _ ⟨g, rfl⟩
                  have HMF : Hid (WoM V g.world Wb D P T M O vA vL ⟨{ s with t := s.t.setE k (st, us - nn) }, x.ad, x.bl⟩) := HM2.out.up g.h
                  go_wp2
                  go_roundw
                  case rel => exact ⟨i' + 1, _, by omega, by go_num, HMF.out, HNX2.out⟩
                  case measure => simp [intOf]; omega
              · obtain rfl : i' = m := by omega
                have hje2 : ¬ (i' : Int) < (i' : Int) := by omega
                have hz : ∀ k, s.t.us k = 0 := fun k => by
                  rw [hsp.us k, List.drop_of_length_le (by rw [rotL_length, HME.out]; exact Nat.le_refl _)]
                  rfl
                have HZ := Lib.hid hz
                have HTB3 : Hid (∀ g : Up wr, Calls Try.prog 18 #[.pointer (some ⟨P, 0, none⟩)] g.world fun e w' => e = .returned (.pointer (some ⟨T, 0, none⟩)) ∧ Below g.world.heap.size g.world w') := fun g => (stTable_any (HMQ.out.st.up g.h)).mono fun e w' ⟨h1, h2⟩ => by rw [h2]; exact ⟨h1, Below.refl _ _⟩
                have HUS3 : Hid (∀ (k : Nat), k < 65536 → ∀ g : Up wr, Calls Try.prog 20 #[.pointer (some ⟨T, 0, none⟩), .int .i64 (k : Nat)] g.world fun e w' => e = .returned (.int .i64 0) ∧ Below g.world.heap.size g.world w') := fun k hk g => (tbUsed_any (HMQ.out.st.up g.h).tb (k := k) (by omega)).mono fun e w' ⟨h1, h2⟩ => by
                  rw [h2, h1]
                  refine ⟨?_, Below.refl _ _⟩
                  have h3 := HZ.out k
                  simp only
                  rw [h3]
                  exact rfl
                obtain ⟨q0, q1, q2, q3, q4, q5, q6, q7, q8⟩ := hbx
                have c103 := hmq.c10
                have lW3 := hmq.lts.1
                clear hmq hsp hsc hbq hz HS0 hlt2
                refine wp_upW (W := wr) fun g => ?_
                go_wp2_with fail
                go_loopw [14] (fun i wq => ∃ (j : Nat) (g : Up wr), j ≤ c.segs ∧ i = .int .i64 (j : Nat) ∧ wq = g.world) (fun i _ => c.segs - (intOf i).toNat)
                case atStart => exact ⟨0, g, Nat.zero_le _, rfl, rfl⟩
                case round =>
                  obtain ⟨j3, g, hj3, rfl, rfl⟩ := hrel
                  by_cases hlt3 : j3 < c.segs
                  · have HUJ := Lib.hid (HUS3.out j3 (by omega))
                    have u3 : (j3 : Int) < (c.segs : Int) := by omega
                    go_wp2_with fail
                    refine calls_upW (HSG.out _) fun g => ?_
                    go_wp2_with fail
                    refine calls_upW (HTB3.out _) fun g => ?_
                    go_wp2_with fail
                    refine calls_upW (HUJ.out _) fun g => ?_
                    go_wp2
                    go_roundw
                    case rel => exact ⟨j3 + 1, g, by omega, by go_num, rfl⟩
                    case measure => simp [intOf]; omega
                  · have hje3 : ¬ (j3 : Int) < (c.segs : Int) := by omega
                    clear HUS3 HTB3
                    go_wp2_with fail
                    refine calls_upW (HSG.out _) fun g => ?_
                    go_wp2_with fail
                    refine (HSM.out s _ (HMQ.out.up g.h) HSP.out.c HSP.out.d).mono ?_
                    rintro _ w5 ⟨rfl, hm5⟩
                    have HF : Hid (Below w.heap.size w w5) := below_upto HB0.out hm5.bel (Nat.le_refl _)
                    clear hm5
                    go_wp2
                    go_ret
                    exact ⟨rfl, HF.out⟩
end Go.Proofs.Ytlmgihnnphmmhaa
