/- BlobsPlays, walked. -/
import Derived.Test.YtlmgihnnphmmhaaMN
namespace Go.Proofs.Ytlmgihnnphmmhaa
open Go.RowKit
set_option linter.unusedVariables false
set_option linter.unusedSimpArgs false

theorem allSecs_app (c : Cfg) (l m : List (Nat × Nat)) : allSecs c (l ++ m) = allSecs c l + allSecs c m := by
  induction l with
  | nil => simp [allSecs]
  | cons p l ih => simp only [List.cons_append, allSecs, ih]; omega
theorem allSecs_take (c : Cfg) (l : List (Nat × Nat)) (j : Nat) (p : Nat × Nat) (h : l[j]? = some p) : allSecs c (l.take (j + 1)) = allSecs c (l.take j) + secs c.z p.2 := by
  rw [List.take_add_one, h, allSecs_app]
  simp [allSecs]
theorem allSecs_le (c : Cfg) (l : List (Nat × Nat)) (h : ∀ p ∈ l, secs c.z p.2 ≤ 4096) : allSecs c l ≤ l.length * 4096 := by
  induction l with
  | nil => exact Nat.zero_le _
  | cons p l ih =>
    have h1 := ih (fun q hq => h q (List.mem_cons_of_mem _ hq))
    have h2 := h p (List.mem_cons_self ..)
    unfold allSecs
    rw [List.length_cons, Nat.add_mul, Nat.one_mul]
    omega
theorem WoInv.ads {f : Nat → Bool} {x : WoS} (h : WoInv f x) (hs : StOk x.s) (i : Nat) (p : Nat × Nat) (hp : x.ad[i]? = some p) : p.1 ≤ 65536 ∧ p.2 ≤ 1048576 ∧ secs x.s.c.z p.2 ≤ 4096 ∧ segOf x.s.c p.1 < x.s.c.segs := by
  have hj : i < x.bl.length := by rw [← h.len]; exact (List.getElem?_eq_some_iff.1 hp).1
  obtain ⟨k, hq⟩ := h.pl i p.1 p.2 x.bl[i] hp (List.getElem?_eq_getElem hj)
  have h1 := hq.r.hn
  have h2 := hq.r.hi
  have h3 := hs.ok.h3
  have h4 := hq.r.lo
  have h5 := hs.ok.room
  have h6 := hs.ok.h0
  have h7 : (k + 1) * x.s.c.seg ≤ x.s.c.segs * x.s.c.seg := Nat.mul_le_mul_right _ hq.r.hk
  rw [Nat.add_mul, Nat.one_mul] at h7
  have h8 := hq.r.seg hs.ok
  have h9 := hq.r.hk
  refine ⟨by omega, by omega, by omega, by rw [h8]; exact h9⟩
theorem sumTo_le {g : Nat → Nat} {m : Nat} (h : ∀ k, g k ≤ m) : ∀ j, sumTo g j ≤ j * m
  | 0 => Nat.zero_le _
  | j + 1 => by
    unfold sumTo
    have h1 := sumTo_le h j
    have h2 := h j
    rw [Nat.add_mul, Nat.one_mul]
    omega
theorem TbAt.us_le {B T M : Nat} {w : World} {s : TbS} (h : TbAt B w T M s) (k : Nat) : s.us k ≤ 1048576 := by
  unfold TbS.us
  cases he : s.ent k with
  | none => exact Nat.zero_le _
  | some e => exact (h.ok k e he).2.2.2
set_option maxRecDepth 100000 in
set_option maxHeartbeats 8000000 in
theorem plays_yes (w : World) {c : Cfg} (hok : c.Ok) (hfs : c.sectors ≤ 3000) (hfz : c.z ≤ 512) {A : Option Addr} {n cp : Nat} {b : Nat → BArg} (hl : SLs w A n b) (hn : n ≤ 1048576) (hs : lenSum b n ≤ 1099511627776) :
    Calls Try.prog 4 #[c.val, .slice A n cp] w fun e w' => e = .returned (.bool true) ∧ Below w.heap.size w w' := by
  have HK : Hid (∀ w', Calls Try.prog 10 #[] w' fun e w'' => e = .returned (.bool true) ∧ Below w'.heap.size w' w'') := fun w' => known9_any w'
  have HF : Hid (∀ w', Calls Try.prog 11 #[c.val] w' fun e w'' => e = .returned (.bool true) ∧ Below w'.heap.size w' w'') := fun w' => fits_true w' hok hfs hfz
  have HBG : Hid (∀ w', Calls Try.prog 12 #[c.val] w' (BgPost (fun _ => false) c w')) := fun w' => begun_any w' hok
  have HSG : Hid (∀ w', Calls Try.prog 19 #[c.val] w' fun e w'' => e = .returned (.int .i64 (c.segs : Nat)) ∧ Below w'.heap.size w' w'') := fun w' => rSegments_any w' hok.pl
  have HFW : Hid (∀ w', Below w.heap.size w w' → Calls Try.prog 16 #[.slice A n cp] w' fun e w'' => e = .returned (.bool (fewB b n)) ∧ Below w'.heap.size w' w'') := fun w' hb => (few_any w' (hl.up hb) hn hs).mono fun e w'' ⟨h1, h2⟩ => by rw [h2]; exact ⟨h1, Below.refl _ _⟩
  have HL := Lib.hid hl
  have HOK := Lib.hid hok
  have hsg := hok.room.2
  have HMD := Lib.hid (BoxC.made w c)
  have HB : Hid (Below w.heap.size w (w.alloc (.cells c.cells 23))) := (Below.refl _ _).alloc (Nat.le_refl _) _
  clear hok hl hs
  unfold Cfg.val at HF HBG HSG ⊢
  unfold Cfg.cells at HMD HB
  go_enter Try.func4, Try.ntmps4
  go_upto_region 1 with (fail)
  refine wp_forget (fun W => BoxC W w.heap.size c ∧ Below w.heap.size w W ∧ w.heap.size < W.heap.size) ⟨HMD.out, HB.out, by simp⟩ ?_
  clear HMD HB
  rintro W ⟨⟨q0, q1, q2, q3, q4, q5, q6, q7, q8⟩, hbW, lW⟩
  have HBW := Lib.hid hbW
  clear hbW
  refine wp_upW (W := W) fun g => ?_
  go_wp2_with fail
  refine calls_upW (HK.out _) fun g => ?_
  go_wp2_with fail
  refine calls_upW (HF.out _) fun g => ?_
  go_wp2_with fail
  refine calls_upW (HFW.out _ (below_upto HBW.out g.h (Nat.le_refl _))) fun g => ?_
  clear HK HF HFW
  cases hfw : fewB b n with
  | false =>
    have HG : Hid (Below w.heap.size w g.world) := below_upto HBW.out g.h (Nat.le_refl _)
    go_wp2
    go_ret
    exact ⟨rfl, HG.out⟩
  | true =>
    have hfw2 : n ≤ 80 ∧ lenSum b n ≤ 32768 := of_decide_eq_true hfw
    obtain ⟨hn80, hsum⟩ := hfw2
    have HLE : Hid (∀ i, i < n → (b i).n ≤ 65536) := fun i hi => by have := le_lenSum b hi; omega
    clear hfw hsum hn
    go_wp2_with fail
    refine (HBG.out _).mono ?_
    rintro _ w1 ⟨Wb, rfl, hwo⟩
    have HP0 := Lib.hid (PutsAt.zero hwo)
    have HB0 : Hid (Below w.heap.size w g.world) := below_upto HBW.out g.h (Nat.le_refl _)
    have hlg : w.heap.size < g.world.heap.size := Nat.lt_of_lt_of_le lW g.size
    have r0 := (g.cell (b := w.heap.size) (o := 0) lW).trans q0
    have r1 := (g.cell (b := w.heap.size) (o := 1) lW).trans q1
    have r2 := (g.cell (b := w.heap.size) (o := 2) lW).trans q2
    have r3 := (g.cell (b := w.heap.size) (o := 3) lW).trans q3
    have r4 := (g.cell (b := w.heap.size) (o := 4) lW).trans q4
    have r5 := (g.cell (b := w.heap.size) (o := 5) lW).trans q5
    have r6 := (g.cell (b := w.heap.size) (o := 6) lW).trans q6
    have r7 := (g.cell (b := w.heap.size) (o := 7) lW).trans q7
    have r8 := (g.cell (b := w.heap.size) (o := 8) lW).trans q8
    have HBX : Hid (BoxC g.world w.heap.size c) := ⟨r0, r1, r2, r3, r4, r5, r6, r7, r8⟩
    obtain ⟨V, hV⟩ : ∃ V, V = g.world := ⟨_, rfl⟩
    rw [← hV] at HP0 HB0 hlg HBX
    clear hwo r0 r1 r2 r3 r4 r5 r6 r7 r8 q0 q1 q2 q3 q4 q5 q6 q7 q8 HBW HBG hV g
    go_wp2_with fail
    go_loopw [6] (fun i wr => ∃ j : Nat, j ≤ n ∧ i = .int .i64 (j : Nat) ∧ PutsAt (fun _ => false) V Wb c j wr) (fun i _ => n - (intOf i).toNat)
    case atStart => exact ⟨0, Nat.zero_le _, rfl, HP0.out⟩
    case round =>
      obtain ⟨j, hj, rfl, hp⟩ := hrel
      clear HP0
      have HP := Lib.hid hp
      by_cases hlt : j < n
      · obtain ⟨G, o, rfl, hG, hc⟩ := HL.out (by omega)
        have hbl := hp.bel
        have c0 := (hbl.cell (p := ⟨G, o + j, none⟩) (Nat.lt_of_lt_of_le hG HB0.out.size)).trans ((HB0.out.cell (p := ⟨G, o + j, none⟩) hG).trans (hc j hlt).1)
        have HPU : Hid (Calls Try.prog 17 #[.pointer (some ⟨Wb, 0, none⟩), (b j).v] wr fun e w' => e = .returned (.bool true) ∧ PutsAt (fun _ => false) V Wb c (j + 1) w') := hp.put ((hc j hlt).2.up HB0.out) (HLE.out j hlt) hfs hfz (by omega)
        unfold BArg.v at c0 HPU
        have i1 : (j : Int) < (n : Int) := by omega
        clear hp hc hbl
        go_wp2_with fail
        refine HPU.out.mono ?_
        rintro _ w2 ⟨rfl, hp2⟩
        have HP2 := Lib.hid hp2
        clear hp2
        go_wp2
        go_roundw
        case rel => exact ⟨j + 1, by omega, by go_num, HP2.out⟩
        case measure => simp [intOf]; omega
      · have hje : ¬ (j : Int) < (n : Int) := by omega
        obtain ⟨x, ⟨D, P, T, M, O, vA, vL, hm, hi⟩, hxc, hpd, had⟩ := hp
        clear HP
        have HM := Lib.hid hm
        have HI := Lib.hid hi
        have hbl := hm.bel
        have HBR : Hid (Below w.heap.size w wr) := below_upto HB0.out hbl (Nat.le_refl _)
        obtain ⟨q0, q1, q2, q3, q4, q5, q6, q7, q8⟩ : BoxC wr w.heap.size c := HBX.out.up fun j => hbl.cell (p := ⟨w.heap.size, j, none⟩) hlg
        have lwr : w.heap.size < wr.heap.size := Nat.lt_of_lt_of_le hlg hbl.size
        have lWb := hm.lts.1
        have c10 := hm.c10
        have hm80 : x.ad.length ≤ 80 := by omega
        obtain ⟨Aa, ca, hva⟩ : ∃ Aa ca, vA = .slice Aa x.ad.length ca := by
          rcases hm.rA.2 with ⟨hh, h0⟩ | ⟨g, cap, cur, hh, _⟩
          · exact ⟨_, _, by rw [hh, h0]⟩
          · exact ⟨_, _, hh⟩
        have c11 : wr.cell? ⟨Wb, 11, none⟩ = some (.slice Aa x.ad.length ca) := by rw [hm.c11, hva]
        have HVA := Lib.hid hva
        have HXC := Lib.hid hxc
        clear hm hi hbl hva hxc hpd had HL HLE
        refine wp_upW (W := wr) fun g => ?_
        go_wp2_with fail
        go_loopw [7, 8] (fun s i wq => ∃ (j : Nat) (g : Up wr), j ≤ x.ad.length ∧ i = .int .i64 (j : Nat) ∧ s = .int .i64 (allSecs c (x.ad.take j) : Nat) ∧ wq = g.world) (fun _ i _ => x.ad.length - (intOf i).toNat)
        case atStart => exact ⟨0, g, Nat.zero_le _, rfl, by simp [allSecs], rfl⟩
        case round =>
          obtain ⟨j, g, hj, rfl, rfl, rfl⟩ := hrel
          have HAL : Hid (∀ j, j ≤ x.ad.length → allSecs c (x.ad.take j) ≤ 80 * 4096) := fun j hj => by
            have h1 := allSecs_le c (x.ad.take j) (fun p hp => by
              obtain ⟨i, hi⟩ := List.mem_iff_getElem?.1 (List.mem_of_mem_take hp)
              have := (HI.out.ads HM.out.st.ok i p hi).2.2.1
              rwa [HXC.out] at this)
            have h2 : (x.ad.take j).length ≤ 80 := by rw [List.length_take]; omega
            exact Nat.le_trans h1 (Nat.mul_le_mul_right _ h2)
          by_cases hlt : j < x.ad.length
          · obtain ⟨⟨a', N'⟩, hp⟩ : ∃ p, x.ad[j]? = some p := ⟨_, List.getElem?_eq_getElem hlt⟩
            obtain ⟨ha', hN', hn', _⟩ := HI.out.ads HM.out.st.ok j _ hp
            obtain ⟨G, cap, hG, hcap, _⟩ := World.ownsRow.form HM.out.rA (show 0 < x.ad.length by omega)
            have k0 := World.ownsRow.cells HM.out.rA (g := G) (by rw [hG]; rfl) (j * 2) _ (adCells_at _ j _ hp).1
            have k1 := World.ownsRow.cells HM.out.rA (g := G) (by rw [hG]; rfl) (j * 2 + 1) _ (adCells_at _ j _ hp).2
            have lG := (HM.out.lts.2.1 G (by rw [hG]; rfl)).2
            rw [addr_plain'] at k0 k1
            rw [HVA.out] at hG
            injection hG with e1 e2 e3
            subst e1
            have HSJ : Hid (∀ w', Calls Try.prog 15 #[c.val, addrV a' N'] w' fun e w'' => e = .returned (.int .i64 (secs c.z N' : Nat)) ∧ Below w'.heap.size w' w'') := fun w' => sectors9_any w' HOK.out a' N' (by omega)
            unfold Cfg.val addrV at HSJ
            have HTK := Lib.hid (allSecs_take c x.ad j _ hp)
            have hbd := HAL.out (j + 1) hlt
            rw [HTK.out] at hbd
            simp only at hbd
            obtain ⟨n', hnn'⟩ : ∃ n', secs c.z N' = n' := ⟨_, rfl⟩
            obtain ⟨t, htt⟩ : ∃ t, allSecs c (x.ad.take j) = t := ⟨_, rfl⟩
            have HTK2 : Hid (allSecs c (x.ad.take (j + 1)) = t + n') := by rw [← htt, ← hnn']; exact HTK.out
            rw [hnn'] at HSJ hbd
            rw [htt] at hbd ⊢
            clear hp hnn' htt HTK e2 e3 hcap hn'
            have u0 : (j : Int) < (x.ad.length : Int) := by omega
            have u1 : IntKind.i64.wrap ((t : Int) + (n' : Int)) = (t : Int) + (n' : Int) := IntWalk.i64_in _ (by omega)
            go_upto_region 17 with (fail)
            refine wp_region_upW (by kernel_rfl) (by kernel_rfl) ?_
            repeat (go_big_quiet_step (first | (go_at_call 15; exact Calls.up_of (HSJ.out _))))
            refine wpQuiet_nil ?_
            rintro _ ⟨g, rfl⟩
            go_wp2
            go_roundw
            case rel => exact ⟨j + 1, g, by omega, by go_num, by rw [HTK2.out]; go_num, rfl⟩
            case measure => simp [intOf]; omega
          · have hje : ¬ (j : Int) < (x.ad.length : Int) := by omega
            obtain rfl : j = x.ad.length := by omega
            rw [List.take_length]
            have hA80 := HAL.out x.ad.length (Nat.le_refl _)
            rw [List.take_length] at hA80
            have HSU : Hid (sumTo x.s.t.us c.segs = allSecs c x.ad) := by
              rw [← HXC.out, sumTo_congr _ (fun j _ => HI.out.us j)]
              exact sum_used _ _ _ fun p hp => by
                obtain ⟨i, hi⟩ := List.mem_iff_getElem?.1 hp
                exact (HI.out.ads HM.out.st.ok i p hi).2.2.2
            obtain ⟨al, hal⟩ : ∃ al, allSecs c x.ad = al := ⟨_, rfl⟩
            rw [hal] at HSU hA80 ⊢
            clear hal HAL
            have HTB : Hid (∀ g : Up wr, Calls Try.prog 18 #[.pointer (some ⟨P, 0, none⟩)] g.world fun e w' => e = .returned (.pointer (some ⟨T, 0, none⟩)) ∧ Below g.world.heap.size g.world w') := fun g => (stTable_any (HM.out.st.up g.h)).mono fun e w' ⟨h1, h2⟩ => by rw [h2]; exact ⟨h1, Below.refl _ _⟩
            have HUS : Hid (∀ (k : Nat), k < 65536 → ∀ g : Up wr, Calls Try.prog 20 #[.pointer (some ⟨T, 0, none⟩), .int .i64 (k : Nat)] g.world fun e w' => e = .returned (.int .i64 (x.s.t.us k : Nat)) ∧ Below g.world.heap.size g.world w') := fun k hk g => (tbUsed_any (HM.out.st.up g.h).tb (k := k) (by omega)).mono fun e w' ⟨h1, h2⟩ => by rw [h2]; exact ⟨h1, Below.refl _ _⟩
            have HSL : Hid (∀ j, sumTo x.s.t.us j ≤ j * 1048576) := fun j => sumTo_le (fun k => HM.out.st.tb.us_le k) j
            go_wp2_with fail
            refine calls_upW (HTB.out _) fun g => ?_
            go_wp2_with fail
            go_loopw [9, 11] (fun s i wq => ∃ (j : Nat) (g : Up wr), j ≤ c.segs ∧ i = .int .i64 (j : Nat) ∧ s = .int .i64 (sumTo x.s.t.us j : Nat) ∧ wq = g.world) (fun _ i _ => c.segs - (intOf i).toNat)
            case atStart => exact ⟨0, g, Nat.zero_le _, rfl, rfl, rfl⟩
            case round =>
              obtain ⟨j, g, hj, rfl, rfl, rfl⟩ := hrel
              by_cases hlt : j < c.segs
              · have h1 := HSL.out (j + 1)
                have HS1 : Hid (sumTo x.s.t.us (j + 1) = sumTo x.s.t.us j + x.s.t.us j) := rfl
                rw [HS1.out] at h1
                have HUJ := Lib.hid (HUS.out j (by omega))
                obtain ⟨u, hu⟩ : ∃ u, x.s.t.us j = u := ⟨_, rfl⟩
                obtain ⟨t, ht⟩ : ∃ t, sumTo x.s.t.us j = t := ⟨_, rfl⟩
                have HS2 : Hid (sumTo x.s.t.us (j + 1) = t + u) := by rw [← hu, ← ht]; exact HS1.out
                rw [hu] at HUJ h1
                rw [ht] at h1 ⊢
                clear hu ht HS1
                have h2 : (j + 1) * 1048576 ≤ 65536 * 1048576 := Nat.mul_le_mul_right _ (by omega)
                have u0 : (j : Int) < (c.segs : Int) := by omega
                have u1 : IntKind.i64.wrap ((t : Int) + (u : Int)) = (t : Int) + (u : Int) := IntWalk.i64_in _ (by omega)
                clear h1 h2
                go_wp2_with fail
                refine calls_upW (HSG.out _) fun g => ?_
                go_wp2_with fail
                refine calls_upW (HUJ.out _) fun g => ?_
                go_wp2
                go_roundw
                case rel => exact ⟨j + 1, g, by omega, by go_num, by rw [HS2.out]; go_num, rfl⟩
                case measure => simp [intOf]; omega
              · obtain rfl : j = c.segs := by omega
                have hje : ¬ (c.segs : Int) < (c.segs : Int) := by omega
                rw [HSU.out]
                have HSM : Hid (∀ g : Up wr, Calls Try.prog 21 #[.pointer (some ⟨Wb, 0, none⟩)] g.world fun e w' => e = .returned (.bool true) ∧ WoM V w' Wb D P T M O vA vL x) := fun g => same9_any (HM.out.up g.h) HI.out.len (HI.out.told HM.out.st.ok (fun b hb => (HM.out.bin b hb).2)) HI.out.on (by omega)
                clear HUS HSL HTB HSU hlt
                go_wp2_with fail
                refine calls_upW (HSG.out _) fun g => ?_
                go_wp2_with fail
                refine (HSM.out _).mono ?_
                rintro _ w5 ⟨rfl, hm5⟩
                have HM5 := Lib.hid hm5
                have hc1 := open_one hm5.st.ok
                have HCT : Hid (Calls Try.prog 22 #[.pointer (some ⟨T, 0, none⟩), .int .i64 1] w5 fun e w' => e = .returned (.int .i64 (x.s.t.cnt 1 x.s.t.n : Nat)) ∧ Below w5.heap.size w5 w') := tbCount_any hm5.st.tb 1
                generalize x.s.t.cnt 1 x.s.t.n = ct at *
                have i1 : (ct : Int) ≤ 1 := by omega
                clear hm5 HSM
                go_wp2_with fail
                refine HCT.out.mono ?_
                rintro _ w6 ⟨rfl, hb6⟩
                have HF : Hid (Below w.heap.size w w6) := below_upto HB0.out ((HM5.out.up hb6).bel) (Nat.le_refl _)
                clear hb6 HCT
                go_wp2
                go_ret
                exact ⟨rfl, HF.out⟩
end Go.Proofs.Ytlmgihnnphmmhaa
