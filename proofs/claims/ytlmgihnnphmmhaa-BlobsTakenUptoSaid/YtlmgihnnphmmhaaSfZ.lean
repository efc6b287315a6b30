/- BlobsTaken, walked. -/
import Derived.Test.YtlmgihnnphmmhaaSeZ
namespace Go.Proofs.Ytlmgihnnphmmhaa
open Go.RowKit
set_option linter.unusedVariables false
set_option linter.unusedSimpArgs false

theorem tbF_st (n : Nat) (f : Nat → Bool) (k : Nat) (hk : k < n) : ((tbF n f n).st k = 0) ↔ f k = false := by
  unfold TbS.st tbF
  simp only
  cases hf : f k with
  | true => rw [if_pos ⟨hk, rfl⟩]; simp
  | false => rw [if_neg (by simp)]; simp
theorem kept_ok {B : Nat} {w : World} {P D T M : Nat} {O : Nat → Prop} {s : StS} {f : Nat → Bool} {G o : Nat} (h : StAt B w P D T M O s) (hc : ∀ k, k < 10 → w.cell? ⟨G, o + k, none⟩ = some (.bool (f k))) (hg : G < B ∨ (o = 0 ∧ ¬ O G)) : ¬ O G ∧ G ≠ P ∧ G ≠ T ∧ G ≠ M := by
  rcases hg with hg | ⟨rfl, hg⟩
  · have h1 := h.lo
    have h2 := h.tb.lo
    exact ⟨fun e => by have := (h.lts.2.2.2 _ e).1; omega, by omega, by omega, by omega⟩
  · refine ⟨hg, fun e => ?_, fun e => ?_, fun e => ?_⟩
    · subst e
      have h1 := h.c9
      rw [show (9 : Nat) = 0 + 9 by rfl, hc 9 (by omega)] at h1
      cases h1
    · subst e
      have h1 := h.tb.c0
      rw [show (0 : Nat) = 0 + 0 by rfl, hc 0 (by omega)] at h1
      cases h1
    · subst e
      obtain ⟨c, es, clock, hb, _⟩ := h.tb.mp
      have h1 := hc 0 (by omega)
      simp [World.cell?, hb] at h1
theorem cnt_step (n : Nat) (f : Nat → Bool) (k : Nat) (hk : k < n) : (tbF n f n).cnt 0 (k + 1) = (tbF n f n).cnt 0 k + if f k = false then 1 else 0 := by
  show (tbF n f n).cnt 0 k + (if (tbF n f n).st k = 0 then 1 else 0) = _
  by_cases h : f k = false
  · rw [if_pos ((tbF_st n f k hk).2 h), if_pos h]
  · rw [if_neg (fun e => h ((tbF_st n f k hk).1 e)), if_neg h]
def lenV : Value → Nat
  | .slice _ n _ => n
  | _ => 0
theorem SBl.one (w : World) (b : Bool) : SBl (w.alloc (.cells #[.bool b] 4)) (some ⟨w.heap.size, 0, none⟩) 1 [b] := by
  refine ⟨rfl, fun hp => ⟨w.heap.size, 0, rfl, by simp, fun k hk => ?_⟩⟩
  obtain rfl : k = 0 := by omega
  rw [cell_of_row _ _ _ _ _ _ (heap_alloc_new w _)]
  rfl
theorem OwBo.sbl' {B : Nat} {w : World} {A : Option Addr} {n c : Nat} {F : List Bool} (h : w.ownsRow B 4 1 (.slice A n c) F.length (F.map Value.bool)) (hl : F.length = n) : SBl w A n F := by
  obtain ⟨A', c', e, _, h2⟩ := OwBo.sbl h
  injection e with e1 e2 e3
  subst e1
  rw [← hl]
  exact h2
/-- A block as it was, or a new one, from its start on. -/
def KG (a b : Nat) (A : Option Addr) : Prop := ∀ G o, A = some ⟨G, o, none⟩ → G < a ∨ (o = 0 ∧ b ≤ G)
theorem KG.own {a B : Nat} {w : World} {A : Option Addr} {n c : Nat} {F : List Bool} {m : Nat} (h : w.ownsRow B 4 1 (.slice A n c) m (F.map Value.bool)) : KG a B A := fun G o e => by
  rcases h.2 with ⟨h1, _⟩ | ⟨g, cap, cur, h1, h2, _⟩
  · injection h1 with e1
    rw [e] at e1
    cases e1
  · injection h1 with e1
    rw [e] at e1
    injection e1 with e1
    injection e1 with e2 e3
    exact .inr ⟨e3, by omega⟩
set_option maxRecDepth 100000 in
set_option maxHeartbeats 16000000 in
theorem taken_yes (w : World) {c : Cfg} (hok : c.Ok) (hfs : c.sectors ≤ 3000) (hfz : c.z ≤ 512) {Af : Option Addr} {nf cf : Nat} {Fl : List Bool} (hF0 : SBl w Af nf Fl) (hcf : nf ≤ cf) {A : Option Addr} {n cp : Nat} {b : Nat → BArg} (hl : SLs w A n b) (hn : n ≤ 1048576) (hs : lenSum b n ≤ 1099511627776) :
    Calls Try.prog 6 #[c.val, .slice Af nf cf, .slice A n cp] w fun e w' => e = .returned (.bool true) ∧ Below w.heap.size w w' := by
  have HK : Hid (∀ w', Calls Try.prog 10 #[] w' fun e w'' => e = .returned (.bool true) ∧ Below w'.heap.size w' w'') := fun w' => known9_any w'
  have HF : Hid (∀ w', Calls Try.prog 11 #[c.val] w' fun e w'' => e = .returned (.bool true) ∧ Below w'.heap.size w' w'') := fun w' => fits_true w' hok hfs hfz
  have HSG : Hid (∀ w', Calls Try.prog 19 #[c.val] w' fun e w'' => e = .returned (.int .i64 (c.segs : Nat)) ∧ Below w'.heap.size w' w'') := fun w' => rSegments_any w' hok.pl
  have HFW : Hid (∀ w', Below w.heap.size w w' → Calls Try.prog 16 #[.slice A n cp] w' fun e w'' => e = .returned (.bool (fewB b n)) ∧ Below w'.heap.size w' w'') := fun w' hb => (few_any w' (hl.up hb) hn hs).mono fun e w'' ⟨h1, h2⟩ => by rw [h2]; exact ⟨h1, Below.refl _ _⟩
  have h0 := hok.h0
  have h1 := hok.h1
  have HDN : Hid (∀ w', Calls Try.prog 26 #[.int .i64 (c.sectors : Nat), .int .i64 (c.z : Nat)] w' _) := fun w' => dkNew_any w' (S := c.sectors) (z := c.z) (by omega)
  have HL := Lib.hid hl
  have HFL := Lib.hid hF0
  have HF0 := Lib.hid hF0
  have HOK := Lib.hid hok
  have hsg := hok.room.2
  have hs16 := hok.hs
  have hseg := hok.h3
  have hsl : c.segs ≤ 3000 := by
    have h5 := hok.room.1
    have h6 : c.segs * 1 ≤ c.segs * c.seg := Nat.mul_le_mul_left _ (by omega)
    omega
  have HMD := Lib.hid (BoxC.made w c)
  have HB : Hid (Below w.heap.size w (w.alloc (.cells c.cells 23))) := (Below.refl _ _).alloc (Nat.le_refl _) _
  clear hok hl hs hF0
  unfold Cfg.val at HF HSG ⊢
  unfold Cfg.cells at HMD HB
  go_enter Try.func6, Try.ntmps6
  go_upto_region 1 with (fail)
  refine wp_forget (fun W => BoxC W w.heap.size c ∧ Below w.heap.size w W ∧ w.heap.size < W.heap.size) ⟨HMD.out, HB.out, by simp⟩ ?_
  clear HMD HB
  rintro W ⟨⟨q0, q1, q2, q3, q4, q5, q6, q7, q8⟩, hbW, lW⟩
  have HBW := Lib.hid hbW
  clear hbW
  refine wp_upW (W := W) fun g => ?_
  go_wp2_with fail
  refine calls_upW (HK.out _) fun g => ?_
  go_wp2_with fail
  refine calls_upW (HF.out _) fun g => ?_
  go_wp2_with fail
  refine calls_upW (HFW.out _ (below_upto HBW.out g.h (Nat.le_refl _))) fun g => ?_
  clear HK HF HFW
  have HG : Hid (Below w.heap.size w g.world) := below_upto HBW.out g.h (Nat.le_refl _)
  cases hfw : fewB b n with
  | false =>
    go_wp2
    go_ret
    exact ⟨rfl, HG.out⟩
  | true =>
    have hfw2 : n ≤ 80 ∧ lenSum b n ≤ 32768 := of_decide_eq_true hfw
    obtain ⟨hn80, hsum⟩ := hfw2
    have HLE : Hid (∀ i, i < n → (b i).n ≤ 65536) := fun i hi => by have := le_lenSum b hi; omega
    clear hfw hsum hn
    by_cases h3k : 3000 < nf
    · have i1 : (nf : Int) > 3000 := by omega
      go_wp2
      go_ret
      exact ⟨rfl, HG.out⟩
    · have i1 : ¬ (nf : Int) > 3000 := by omega
      have i2 : ¬ (3000 : Int) < (nf : Int) := by omega
      go_wp2_with fail
      refine (HDN.out _).mono ?_
      rintro _ w1 ⟨D, rfl, hb1, O, hd⟩
      have HD := Lib.hid hd
      have hg1 : Below w.heap.size w w1 := below_upto HG.out hb1 (Nat.le_refl _)
      have HB1 := Lib.hid hg1
      have HB0 := HG
      have hwg : w.heap.size < g.world.heap.size := Nat.lt_of_lt_of_le lW g.size
      obtain ⟨V, hV⟩ : ∃ V, V = g.world := ⟨_, rfl⟩
      have HBX1 : Hid (BoxC w1 w.heap.size c) := ((show BoxC W w.heap.size c from ⟨q0, q1, q2, q3, q4, q5, q6, q7, q8⟩).up fun j => g.cell (b := w.heap.size) (o := j) lW).up fun j => hb1.cell (p := ⟨w.heap.size, j, none⟩) hwg
      have HBV1 : Hid (Below V.heap.size V w1) := by rw [hV]; exact hb1
      rw [← hV] at HB0 hwg HD
      have lw1 : w.heap.size < w1.heap.size := Nat.lt_of_lt_of_le hwg HBV1.out.size
      clear hb1 hd hg1 HDN HBW q0 q1 q2 q3 q4 q5 q6 q7 q8 HG hV g
      obtain ⟨q0, q1, q2, q3, q4, q5, q6, q7, q8⟩ := HBX1.out
      by_cases hlen : nf = c.segs
      · subst hlen
        have HNW : Hid (Calls Try.prog 27 #[c.val, .pointer (some ⟨D, 0, none⟩), .slice Af c.segs cf] w1 (NwPost V.heap.size w1 D O (st0 c (dk0 c.sectors c.z) (fun k => Fl.getD k false)))) := stNew_any w1 HOK.out HD.out rfl rfl (HFL.out.up HB1.out).2 HBV1.out.size
        unfold Cfg.val at HNW
        go_wp2_with fail
        refine HNW.out.mono ?_
        rintro _ w2 ⟨P, rfl, hb2, T, M, hst⟩
        have HST := Lib.hid hst
        have HFL2 : Hid (SBl w2 Af c.segs Fl) := (HFL.out.up HB1.out).up hb2
        have HBV2 : Hid (Below V.heap.size V w2) := below_upto HBV1.out hb2 (Nat.le_refl _)
        have HBX2 : Hid (BoxC w2 w.heap.size c) := HBX1.out.up fun j => hb2.cell (p := ⟨w.heap.size, j, none⟩) lw1
        have lw2 : w.heap.size < w2.heap.size := Nat.lt_of_lt_of_le lw1 hb2.size
        clear hst hb2 HNW HD HFL HBX1 HBV1 q0 q1 q2 q3 q4 q5 q6 q7 q8
        obtain ⟨q0, q1, q2, q3, q4, q5, q6, q7, q8⟩ := HBX2.out
        go_wp2_with fail
        refine (HSG.out _).mono ?_
        rintro _ w3 ⟨rfl, hb3⟩
        have HFL3 := Lib.hid (HFL2.out.up hb3)
        have HST3 := Lib.hid (HST.out.up hb3)
        have HBV3 : Hid (Below V.heap.size V w3) := below_upto HBV2.out hb3 (Nat.le_refl _)
        have HBX3 : Hid (BoxC w3 w.heap.size c) := HBX2.out.up fun j => hb3.cell (p := ⟨w.heap.size, j, none⟩) lw2
        have lw3 : w.heap.size < w3.heap.size := Nat.lt_of_lt_of_le lw2 hb3.size
        clear hb3 HFL2 HST HBV2 HBX2 q0 q1 q2 q3 q4 q5 q6 q7 q8
        go_upto_region 17 with (fail)
        have HKG : Hid (∀ G o, Af = some ⟨G, o, none⟩ → G < V.heap.size ∨ (o = 0 ∧ ¬ O G)) := fun G o e => by
          obtain ⟨b, o', e', hb, _⟩ := HF0.out.2 (by omega)
          rw [e] at e'
          injection e' with e'
          injection e' with e1 e2
          subst e1
          exact .inl (Nat.lt_of_lt_of_le hb HB0.out.size)
        clear HF0
        obtain ⟨f, hf⟩ : ∃ f : Nat → Bool, f = fun k => Fl.getD k false := ⟨_, rfl⟩
        have HFS : Hid (SBo w3 Af c.segs f) := by rw [hf]; exact HFL3.out.2
        have hfl : ∀ k, f k = true → k < c.segs := fun k hk => by
          rw [hf] at hk
          rcases Nat.lt_or_ge k c.segs with h | h
          · exact h
          · have h5 := HFL3.out.1
            simp [List.getD_eq_getElem?_getD, List.getElem?_eq_none (show Fl.length ≤ k by omega)] at hk
        rw [← hf] at HST3
        obtain ⟨G, o, rfl, hG, hc⟩ := HFS.out (by omega)
        obtain ⟨kO, kP, kT, kM⟩ := kept_ok HST3.out (f := f) (fun k hk => hc k (by omega)) (HKG.out G o rfl)
        obtain ⟨ks, hks⟩ : ∃ ks : Inhabited KSt, @kbF ks = fun g => if g = G then w3.heap[G]? else none := ⟨⟨⟨_⟩⟩, rfl⟩
        have HMW : Hid (∀ cs, cs = #[Value.int .i64 (c.sectors : Nat), .int .i64 (c.z : Nat), .int .i64 (c.journal : Nat), .int .i64 (c.seg : Nat), .int .i64 (c.page : Nat), .int .i64 (c.frames : Nat), .int .i64 (c.procs : Nat), .int .i64 (c.regions : Nat), .int .i64 (c.pages : Nat), .pointer (some ⟨D, 0, none⟩), .pointer (some ⟨P, 0, none⟩), .slice none 0 0, .slice none 0 0] → WoM V (w3.alloc (.cells cs 38)) w3.heap.size D P T M O (.slice none 0 0) (.slice none 0 0) (wo0 c f)) := fun cs e => by
          rw [e]
          refine WoM.made HBV3.out HST3.out fun g hg => ?_
          rw [hks] at hg ⊢
          have hgG : g = G := by
            simp only at hg
            split at hg
            · assumption
            · exact absurd rfl hg
          subst hgG
          exact ⟨by simp, kO, kP, kT, kM⟩
        have HKC : Hid (∀ {wr : World} {D P T M : Nat} {vA vL : Value} {x : WoS} {O : Nat → Prop}, WoM V wr w3.heap.size D P T M O vA vL x → G < wr.heap.size ∧ ∀ k, k < c.segs → wr.cell? ⟨G, o + k, none⟩ = some (.bool (f k))) := fun {wr D P T M vA vL x O} hm => by
          have hne : @kbF ks G ≠ none := by rw [hks]; simp [hG]
          have h1 := (hm.kp G hne).1
          rw [hks] at h1
          simp only [if_true] at h1
          have h2 : G < wr.heap.size := by
            rcases Nat.lt_or_ge G wr.heap.size with h2 | h2
            · exact h2
            · rw [Array.getElem?_eq_none h2] at h1
              simp [hG] at h1
          exact ⟨h2, fun k hk => (World.cell?_of_block (w := w3) (w' := wr) h1).trans (hc k hk)⟩
        have HFI : Hid (WoInv f (wo0 c f)) := WoInv.zero hfl
        clear HFL3 HFS HKG hc hfl hf kO kP kT kM hks HSG
        obtain ⟨q0, q1, q2, q3, q4, q5, q6, q7, q8⟩ := HBX3.out
        go_upto_region 20 with (fail)
        refine wp_forget (fun Y => WoM V Y w3.heap.size D P T M O (.slice none 0 0) (.slice none 0 0) (wo0 c f) ∧ BoxC Y w.heap.size c) ⟨HMW.out _ rfl, HBX3.out.up fun j => ((Below.refl _ _).alloc (Nat.le_refl _) _).cell (p := ⟨w.heap.size, j, none⟩) lw3⟩ ?_
        rintro Y ⟨hmy, hby⟩
        obtain ⟨Wb, hWb⟩ : ∃ Wb, Wb = w3.heap.size := ⟨_, rfl⟩
        rw [← hWb] at hmy HKC ⊢
        clear HMW HST3 HBX3 q0 q1 q2 q3 q4 q5 q6 q7 q8
        obtain ⟨q0, q1, q2, q3, q4, q5, q6, q7, q8⟩ := hby
        have HMY := Lib.hid hmy
        obtain ⟨lG, hcy⟩ := HKC.out hmy
        have lWb := hmy.lts.1
        have lwy : w.heap.size < Y.heap.size := Nat.lt_of_lt_of_le hwg hmy.bel.size
        have HCY := Lib.hid hcy
        have c10 := hmy.c10
        have HBXV : Hid (BoxC V w.heap.size c) := (show BoxC Y w.heap.size c from ⟨q0, q1, q2, q3, q4, q5, q6, q7, q8⟩).up fun j => (hmy.bel.cell (p := ⟨w.heap.size, j, none⟩) hwg).symm
        obtain ⟨q, hq⟩ : ∃ q : Nat → Nat, q = fun j => (tbF c.segs f c.segs).cnt 0 j := ⟨_, rfl⟩
        have HQS : Hid (∀ j, j < c.segs → q (j + 1) = q j + if f j = false then 1 else 0) := fun j hj => by rw [hq]; exact cnt_step _ _ _ hj
        have HQL : Hid (∀ j, q j ≤ j) := fun j => by rw [hq]; exact TbS.cnt_le _ _ _
        have hq0 : q 0 = 0 := by rw [hq]; rfl
        have HLF : Hid (∀ g : Up Y, Calls Try.prog 28 #[.pointer (some ⟨P, 0, none⟩)] g.world fun e w' => e = .returned (.int .i64 (q c.segs * c.seg : Nat)) ∧ Below g.world.heap.size g.world w') := fun g => (stLeft_any (HMY.out.st.up g.h)).mono fun e w' ⟨h1, h2⟩ => by
          refine ⟨?_, h2⟩
          rw [h1, hq]
          rfl
        clear hmy hcy hq hWb lw3 hG HBV3 w3
        go_wp2_with fail
        go_loopw [13, 14] (fun s i wr => ∃ j : Nat, j ≤ c.segs ∧ i = .int .i64 (j : Nat) ∧ s = .int .i64 (q j : Nat) ∧ wr = Y) (fun _ i _ => c.segs - (intOf i).toNat)
        case atStart => exact ⟨0, Nat.zero_le _, rfl, by rw [hq0]; rfl, rfl⟩
        case round =>
          obtain ⟨j, hj, rfl, rfl, rfl⟩ := hrel
          clear hq0
          by_cases hlt : j < c.segs
          · have c0 := HCY.out j hlt
            have HQ1 := Lib.hid (HQS.out j hlt)
            have hqj := HQL.out j
            obtain ⟨t, ht⟩ : ∃ t, q j = t := ⟨_, rfl⟩
            rw [ht] at HQ1 hqj ⊢
            have u0 : (j : Int) < (c.segs : Int) := by omega
            have u1 : IntKind.i64.wrap ((t : Int) + 1) = (t : Int) + 1 := IntWalk.i64_in _ (by omega)
            clear ht
            cases hfj : f j with
            | true =>
              rw [hfj] at c0 HQ1
              go_wp2
              go_roundw
              case rel => exact ⟨j + 1, by omega, by go_num, by rw [HQ1.out]; simp, by first | rfl | trivial⟩
              case measure => simp [intOf]; omega
            | false =>
              rw [hfj] at c0 HQ1
              go_wp2
              go_roundw
              case rel => exact ⟨j + 1, by omega, by go_num, by rw [HQ1.out]; simp, by first | rfl | trivial⟩
              case measure => simp [intOf]; omega
          · obtain rfl : j = c.segs := by omega
            have hje : ¬ (c.segs : Int) < (c.segs : Int) := by omega
            clear hlt HQS
            have hqn := HQL.out c.segs
            obtain ⟨t, ht⟩ : ∃ t, q c.segs = t := ⟨_, rfl⟩
            rw [ht] at hqn HLF ⊢
            clear ht
            obtain ⟨m, hm⟩ : ∃ m, t * c.seg = m := ⟨_, rfl⟩
            have hml : m ≤ 65536 * 4096 := by rw [← hm]; exact Nat.mul_le_mul (by omega) hseg.2
            have e1 : (t : Int) * (c.seg : Int) = (m : Int) := by rw [← hm]; simp
            rw [hm] at HLF
            have w1 : IntKind.i64.wrap (m : Int) = (m : Int) := IntWalk.i64_in _ (by omega)
            clear hm hqn HQL
            go_upto_region 26 with (fail)
            refine wp_region_up (by kernel_rfl) (by kernel_rfl) ?_
            repeat (go_big_quiet_step (first | (go_at_call 28; exact Calls.up_of (HLF.out _))))
            refine wpQuiet_nil ?_
            rintro _ ⟨g, rfl⟩
            have HP0 : Hid (PutsAt f V Wb c 0 g.world) := PutsAt.zero ⟨D, P, T, M, O, _, _, HMY.out.up g.h, HFI.out⟩
            clear HLF e1 w1 hml HCY c10 HMY q0 q1 q2 q3 q4 q5 q6 q7 q8 HFI lG lWb lwy
            go_wp2_with fail
            go_loopw [15] (fun i wq => ∃ j : Nat, j ≤ n ∧ i = .int .i64 (j : Nat) ∧ PutsAt f V Wb c j wq) (fun i _ => n - (intOf i).toNat)
            case atStart => exact ⟨0, Nat.zero_le _, rfl, HP0.out⟩
            case round =>
              obtain ⟨j, hj, rfl, hp⟩ := hrel
              clear HP0
              have HP := Lib.hid hp
              by_cases hlt : j < n
              · obtain ⟨G2, o2, rfl, hG2, hc2⟩ := HL.out (by omega)
                have hbl := hp.bel
                have c0 := (hbl.cell (p := ⟨G2, o2 + j, none⟩) (Nat.lt_of_lt_of_le hG2 HB0.out.size)).trans ((HB0.out.cell (p := ⟨G2, o2 + j, none⟩) hG2).trans (hc2 j hlt).1)
                have hl2 : G2 < wr.heap.size := Nat.lt_of_lt_of_le (Nat.lt_of_lt_of_le hG2 HB0.out.size) hbl.size
                have HPU : Hid (Calls Try.prog 17 #[.pointer (some ⟨Wb, 0, none⟩), (b j).v] wr fun e w' => e = .returned (.bool true) ∧ PutsAt f V Wb c (j + 1) w') := hp.put ((hc2 j hlt).2.up HB0.out) (HLE.out j hlt) hfs hfz (by omega)
                unfold BArg.v at c0 HPU
                have i1 : (j : Int) < (n : Int) := by omega
                clear hp hc2 hbl
                go_wp2_with fail
                refine HPU.out.mono ?_
                rintro _ w2 ⟨rfl, hp2⟩
                have HP2 := Lib.hid hp2
                clear hp2
                go_wp2
                go_roundw
                case rel => exact ⟨j + 1, by omega, by go_num, HP2.out⟩
                case measure => simp [intOf]; omega
              · have hje : ¬ (j : Int) < (n : Int) := by omega
                obtain ⟨x, ⟨D', P', T', M', O', vA, vL, hm, hi⟩, hxc, hpd, had⟩ := hp
                clear HP
                have HM := Lib.hid hm
                have HI := Lib.hid hi
                have hbl := hm.bel
                have HBR : Hid (Below w.heap.size w wr) := below_upto HB0.out hbl (Nat.le_refl _)
                obtain ⟨q0, q1, q2, q3, q4, q5, q6, q7, q8⟩ : BoxC wr w.heap.size c := HBXV.out.up fun j => hbl.cell (p := ⟨w.heap.size, j, none⟩) hwg
                have lwr : w.heap.size < wr.heap.size := Nat.lt_of_lt_of_le hwg hbl.size
                have lWb := hm.lts.1
                have hm80 : x.ad.length ≤ 80 := by omega
                obtain ⟨lG, hcr⟩ := HKC.out hm
                have HCR := Lib.hid hcr
                obtain ⟨Aa, ca, hva⟩ : ∃ Aa ca, vA = .slice Aa x.ad.length ca := by
                  rcases hm.rA.2 with ⟨hh, h0⟩ | ⟨g, cap, cur, hh, _⟩
                  · exact ⟨_, _, by rw [hh, h0]⟩
                  · exact ⟨_, _, hh⟩
                have c11 : wr.cell? ⟨Wb, 11, none⟩ = some (.slice Aa x.ad.length ca) := by rw [hm.c11, hva]
                have HVA := Lib.hid hva
                have HXC := Lib.hid hxc
                clear hm hi hbl hva hxc hpd had HL HLE hcr HKC
                refine wp_upW (W := wr) fun g => ?_
                go_wp2_with fail
                go_loopw [16] (fun i wq => ∃ (j : Nat) (g : Up wr), j ≤ x.ad.length ∧ i = .int .i64 (j : Nat) ∧ wq = g.world) (fun i _ => x.ad.length - (intOf i).toNat)
                case atStart => exact ⟨0, g, Nat.zero_le _, rfl, rfl⟩
                case round =>
                  obtain ⟨j, g, hj, rfl, rfl⟩ := hrel
                  by_cases hlt : j < x.ad.length
                  · obtain ⟨⟨a', N'⟩, hp⟩ : ∃ p, x.ad[j]? = some p := ⟨_, List.getElem?_eq_getElem hlt⟩
                    obtain ⟨ha', hN', hn', _⟩ := HI.out.ads HM.out.st.ok j _ hp
                    have hj2 : j < x.bl.length := by rw [← HI.out.len]; exact hlt
                    obtain ⟨k, hq⟩ := HI.out.pl j a' N' x.bl[j] hp (List.getElem?_eq_getElem hj2)
                    have hkr := hq.r
                    rw [HXC.out] at hkr
                    have hk := hkr.hk
                    have c0 := HCR.out k hk
                    rw [hq.nf] at c0
                    have HOF : Hid (∀ w', Calls Try.prog 29 #[c.val, .int .i64 (a' : Nat)] w' fun e w'' => e = .returned (.int .i64 (k : Nat)) ∧ Below w'.heap.size w' w'') := fun w' => by
                      rw [← hkr.of HOK.out]
                      exact rOf_any w' HOK.out (a' : Nat) ⟨by omega, by simp only at ha'; omega⟩
                    obtain ⟨G3, cap, hG, hcap, _⟩ := World.ownsRow.form HM.out.rA (show 0 < x.ad.length by omega)
                    have k0 := World.ownsRow.cells HM.out.rA (g := G3) (by rw [hG]; rfl) (j * 2) _ (adCells_at _ j _ hp).1
                    have lG3 := (HM.out.lts.2.1 G3 (by rw [hG]; rfl)).2
                    rw [addr_plain'] at k0
                    rw [HVA.out] at hG
                    injection hG with e1 e2 e3
                    subst e1
                    unfold Cfg.val at HOF
                    have u0 : (j : Int) < (x.ad.length : Int) := by omega
                    have u1 : (k : Int) < (c.segs : Int) := by omega
                    have hk16 : k ≤ 65536 := by omega
                    clear hp hq hkr e2 e3 hcap hn' ha' hN'
                    go_upto_region 36 with (fail)
                    refine wp_region_upW (by kernel_rfl) (by kernel_rfl) ?_
                    repeat (go_big_quiet_step (first | (go_at_call 29; exact Calls.up_of (HOF.out _))))
                    refine wpQuiet_nil ?_
                    rintro _ ⟨g, rfl⟩
                    go_wp2
                    go_roundw
                    case rel => exact ⟨j + 1, g, by omega, by go_num, rfl⟩
                    case measure => simp [intOf]; omega
                  · have hje : ¬ (j : Int) < (x.ad.length : Int) := by omega
                    have HSM : Hid (∀ g : Up wr, Calls Try.prog 21 #[.pointer (some ⟨Wb, 0, none⟩)] g.world fun e w' => e = .returned (.bool true) ∧ WoM V w' Wb D' P' T' M' O' vA vL x) := fun g => same9_any (HM.out.up g.h) HI.out.len (HI.out.told HM.out.st.ok (fun b hb => (HM.out.bin b hb).2)) HI.out.on (by omega)
                    go_wp2_with fail
                    refine (HSM.out _).mono ?_
                    rintro _ w5 ⟨rfl, hm5⟩
                    have HF : Hid (Below w.heap.size w w5) := below_upto HB0.out hm5.bel (Nat.le_refl _)
                    clear hm5
                    go_wp2
                    go_ret
                    exact ⟨rfl, HF.out⟩
      · have HNB : Hid (Calls Try.prog 27 #[c.val, .pointer (some ⟨D, 0, none⟩), .slice Af nf cf] w1 fun e w' => e = .returned (.tuple #[.pointer none, .int .i64 1]) ∧ Below w1.heap.size w1 w') := stNewBad_any w1 HOK.out HD.out rfl rfl hlen
        have i3 : ¬ (nf : Int) = (c.segs : Int) := by omega
        have i6 : ((nf : Int) != (c.segs : Int)) = true := bne_iff_ne.2 i3
        unfold Cfg.val at HNB
        go_wp2_with fail
        refine HNB.out.mono ?_
        rintro _ w2 ⟨rfl, hb2⟩
        have HD2 := Lib.hid (HD.out.up hb2)
        have HFL2 : Hid (SBl w2 Af nf Fl) := (HFL.out.up HB1.out).up hb2
        have HBV2 : Hid (Below V.heap.size V w2) := below_upto HBV1.out hb2 (Nat.le_refl _)
        have HBX2 : Hid (BoxC w2 w.heap.size c) := HBX1.out.up fun j => hb2.cell (p := ⟨w.heap.size, j, none⟩) lw1
        have lw2 : w.heap.size < w2.heap.size := Nat.lt_of_lt_of_le lw1 hb2.size
        clear hb2 HNB HD HFL HBX1 HBV1 q0 q1 q2 q3 q4 q5 q6 q7 q8
        obtain ⟨q0, q1, q2, q3, q4, q5, q6, q7, q8⟩ := HBX2.out
        go_wp2_with fail
        refine (HSG.out _).mono ?_
        rintro _ w3 ⟨rfl, hb3⟩
        have HFL3 := Lib.hid (HFL2.out.up hb3)
        have HD3 := Lib.hid (HD2.out.up hb3)
        have HBV3 : Hid (Below V.heap.size V w3) := below_upto HBV2.out hb3 (Nat.le_refl _)
        have HBX3 : Hid (BoxC w3 w.heap.size c) := HBX2.out.up fun j => hb3.cell (p := ⟨w.heap.size, j, none⟩) lw2
        have lw3 : w.heap.size < w3.heap.size := Nat.lt_of_lt_of_le lw2 hb3.size
        have HKG0 : Hid (0 < nf → KG V.heap.size w3.heap.size Af) := fun h0 G o e => by
          obtain ⟨b, o', e', hb, _⟩ := HF0.out.2 h0
          rw [e] at e'
          injection e' with e'
          injection e' with e1 e2
          subst e1
          exact .inl (Nat.lt_of_lt_of_le hb HB0.out.size)
        clear hb3 HFL2 HD2 HBV2 HBX2 q0 q1 q2 q3 q4 q5 q6 q7 q8 HF0
        have hnf3 : nf ≤ 3000 := by omega
        go_upto_region 10 with (fail)
        refine wp_upW (W := w3) fun g => ?_
        have HFL4 := Lib.hid (HFL3.out.up g.h)
        go_wp2_with fail
        go_loopw [1] (fun s wq => ∃ (g : Up w3) (A' : Option Addr) (n' c' : Nat) (F' : List Bool), s = .slice A' n' c' ∧ wq = g.world ∧ SBl g.world A' n' F' ∧ n' ≤ c' ∧ n' ≤ 3000 ∧ (0 < n' → KG V.heap.size w3.heap.size A')) (fun s _ => c.segs - lenV s)
        case atStart => exact ⟨g, Af, nf, cf, Fl, rfl, rfl, HFL4.out, hcf, hnf3, HKG0.out⟩
        case round =>
          obtain ⟨g, A', n', c', F', rfl, rfl, hfl, hnc, hn3, hkg⟩ := hrel
          clear HFL4 HKG0
          have HFL4 := Lib.hid hfl
          have HKG1 := Lib.hid hkg
          clear hfl hkg
          by_cases hlt : n' < c.segs
          · have i4 : (n' : Int) < (c.segs : Int) := by omega
            have HO1 : Hid ((g.world.alloc (.cells #[] 4)).ownsRow w3.heap.size 4 1 (.slice (some ⟨g.world.heap.size, 0, none⟩) 0 0) ([] : List Bool).length (([] : List Bool).map Value.bool)) := World.ownsRow_lit g.world #[] 0 g.h.size (by unfold maxLen; omega) rfl
            have HS1 : Hid (SBl (g.world.alloc (.cells #[] 4)) A' n' F') := HFL4.out.up ((Below.refl _ _).alloc (Nat.le_refl _) _)
            have hsz : w3.heap.size ≤ (g.world.alloc (.cells #[] 4)).heap.size := Nat.le_trans g.h.size (by simp)
            obtain ⟨r, hr⟩ : ∃ r, n' % 3 = r := ⟨_, rfl⟩
            rcases Nat.eq_zero_or_pos r with hr0 | hr0
            · have u2 : (n' : Int) % 3 = 0 := by omega
              have u1 : (n' : Int).tmod 3 = 0 := by rw [Int.tmod_eq_emod_of_nonneg (by omega)]; exact u2
              go_upto_region 14 with (fail)
              go_wp2_with (at_builtin; first
                | (refine wpList_appBo rfl (.tmp 69) (.tmp 70) rfl w3.heap.size (.slice (some ⟨g.world.heap.size, 0, none⟩) 0 0) [] F' rfl HO1.out A' n' c' rfl HS1.out hsz (by simp; omega) n' (by simp) ?_; rintro A2 c2 w2' h2 hc2 hg2; have HG2 : Hid (Below w3.heap.size w3 w2') := (g.h.alloc g.h.size _).trans ((grown_off hg2).below (fun k hk => by cases hk; exact g.h.size) hsz); have HO2 : Hid ((w2'.alloc (.cells #[.bool true] 4)).ownsRow w3.heap.size 4 1 (.slice A2 n' c2) F'.length (F'.map Value.bool)) := World.ownsRow.alloc h2 _; have HS2 := Lib.hid (SBl.one w2' true); have hsz2 : w3.heap.size ≤ (w2'.alloc (.cells #[.bool true] 4)).heap.size := Nat.le_trans HG2.out.size (by simp); have HN2 : Hid (F'.length = n') := Lib.hid HS1.out.1; clear h2 hg2 hc2)
                | (refine wpList_appBo rfl (.tmp 71) (.tmp 76) rfl w3.heap.size (.slice A2 n' c2) F' [true] rfl HO2.out (some ⟨w2'.heap.size, 0, none⟩) 1 1 rfl HS2.out hsz2 (by rw [HN2.out]; omega) (n' + 1) (by rw [HN2.out]) ?_; rintro A4 c4 w4 h4 hc4 hg4; have HG4 : Hid (Below w3.heap.size w3 w4) := (HG2.out.alloc HG2.out.size _).trans ((grown_off hg4).below (fun k hk => (World.ownsRow.lt HO2.out k hk).1) hsz2); have H4 := Lib.hid h4; clear h4 hg4))
              go_roundw
              case rel => exact ⟨⟨w4, HG4.out⟩, A4, n' + 1, c4, F' ++ [true], rfl, rfl, OwBo.sbl' H4.out (by rw [List.length_append, HN2.out]; rfl), hc4, by omega, fun _ => KG.own H4.out⟩
              case measure => simp [lenV]; omega
            · have u2 : (n' : Int) % 3 = (r : Int) := by omega
              have u1 : (n' : Int).tmod 3 = (r : Int) := by rw [Int.tmod_eq_emod_of_nonneg (by omega)]; exact u2
              have u3 : ¬ (r : Int) = 0 := by omega
              have u4 : ((r : Int) == 0) = false := beq_eq_false_iff_ne.2 u3
              clear hr
              go_upto_region 14 with (fail)
              go_wp2_with (at_builtin; first
                | (refine wpList_appBo rfl (.tmp 69) (.tmp 70) rfl w3.heap.size (.slice (some ⟨g.world.heap.size, 0, none⟩) 0 0) [] F' rfl HO1.out A' n' c' rfl HS1.out hsz (by simp; omega) n' (by simp) ?_; rintro A2 c2 w2' h2 hc2 hg2; have HG2 : Hid (Below w3.heap.size w3 w2') := (g.h.alloc g.h.size _).trans ((grown_off hg2).below (fun k hk => by cases hk; exact g.h.size) hsz); have HO2 : Hid ((w2'.alloc (.cells #[.bool false] 4)).ownsRow w3.heap.size 4 1 (.slice A2 n' c2) F'.length (F'.map Value.bool)) := World.ownsRow.alloc h2 _; have HS2 := Lib.hid (SBl.one w2' false); have hsz2 : w3.heap.size ≤ (w2'.alloc (.cells #[.bool false] 4)).heap.size := Nat.le_trans HG2.out.size (by simp); have HN2 : Hid (F'.length = n') := Lib.hid HS1.out.1; clear h2 hg2 hc2)
                | (refine wpList_appBo rfl (.tmp 71) (.tmp 76) rfl w3.heap.size (.slice A2 n' c2) F' [false] rfl HO2.out (some ⟨w2'.heap.size, 0, none⟩) 1 1 rfl HS2.out hsz2 (by rw [HN2.out]; omega) (n' + 1) (by rw [HN2.out]) ?_; rintro A4 c4 w4 h4 hc4 hg4; have HG4 : Hid (Below w3.heap.size w3 w4) := (HG2.out.alloc HG2.out.size _).trans ((grown_off hg4).below (fun k hk => (World.ownsRow.lt HO2.out k hk).1) hsz2); have H4 := Lib.hid h4; clear h4 hg4))
              go_roundw
              case rel => exact ⟨⟨w4, HG4.out⟩, A4, n' + 1, c4, F' ++ [false], rfl, rfl, OwBo.sbl' H4.out (by rw [List.length_append, HN2.out]; rfl), hc4, by omega, fun _ => KG.own H4.out⟩
              case measure => simp [lenV]; omega
          · have i4 : ¬ (n' : Int) < (c.segs : Int) := by omega
            have i5 : (c.segs : Int) ≤ (c' : Int) := by omega
            obtain ⟨q0, q1, q2, q3, q4, q5, q6, q7, q8⟩ := HBX3.out
            have HNW : Hid (Calls Try.prog 27 #[c.val, .pointer (some ⟨D, 0, none⟩), .slice A' c.segs c'] g.world (NwPost V.heap.size g.world D O (st0 c (dk0 c.sectors c.z) (fun k => (F'.take c.segs).getD k false)))) := stNew_any g.world HOK.out (HD3.out.up g.h) rfl rfl (HFL4.out.take (by omega)).2 (Nat.le_trans HBV3.out.size g.h.size)
            unfold Cfg.val at HNW
            have HKG : Hid (∀ G o, A' = some ⟨G, o, none⟩ → G < V.heap.size ∨ (o = 0 ∧ ¬ O G)) := fun G o e => by
              rcases HKG1.out (by omega) G o e with h | ⟨h, h2⟩
              · exact .inl h
              · exact .inr ⟨h, fun hO => by have := (HD3.out.lts G hO).2; omega⟩
            go_wp2_with fail
            refine HNW.out.mono ?_
            rintro _ w4 ⟨P, rfl, hb4, T, M, hst⟩
            have HST3 := Lib.hid hst
            have HFL3 : Hid (SBl w4 A' c.segs (F'.take c.segs)) := (HFL4.out.take (by omega)).up hb4
            have hg4 : Below w3.heap.size w3 w4 := g.h.trans (hb4.mono g.h.size)
            have HBV3 : Hid (Below V.heap.size V w4) := below_upto HBV3.out hg4 (Nat.le_refl _)
            have HBX3 : Hid (BoxC w4 w.heap.size c) := HBX3.out.up fun j => hg4.cell (p := ⟨w.heap.size, j, none⟩) lw3
            have lw3 : w.heap.size < w4.heap.size := Nat.lt_of_lt_of_le lw3 hg4.size
            clear hb4 hg4 hst HNW HFL4 HKG1 HD3 q0 q1 q2 q3 q4 q5 q6 q7 q8
            go_upto_region 17 with (fail)
            obtain ⟨f, hf⟩ : ∃ f : Nat → Bool, f = fun k => (F'.take c.segs).getD k false := ⟨_, rfl⟩
            have HFS : Hid (SBo w4 A' c.segs f) := by rw [hf]; exact HFL3.out.2
            have hfl : ∀ k, f k = true → k < c.segs := fun k hk => by
              rw [hf] at hk
              rcases Nat.lt_or_ge k c.segs with h | h
              · exact h
              · have h5 := HFL3.out.1
                simp [List.getD_eq_getElem?_getD, List.getElem?_eq_none (show (F'.take c.segs).length ≤ k by omega)] at hk
            rw [← hf] at HST3
            obtain ⟨G, o, rfl, hG, hc⟩ := HFS.out (by omega)
            obtain ⟨kO, kP, kT, kM⟩ := kept_ok HST3.out (f := f) (fun k hk => hc k (by omega)) (HKG.out G o rfl)
            obtain ⟨ks, hks⟩ : ∃ ks : Inhabited KSt, @kbF ks = fun g => if g = G then w4.heap[G]? else none := ⟨⟨⟨_⟩⟩, rfl⟩
            have HMW : Hid (∀ cs, cs = #[Value.int .i64 (c.sectors : Nat), .int .i64 (c.z : Nat), .int .i64 (c.journal : Nat), .int .i64 (c.seg : Nat), .int .i64 (c.page : Nat), .int .i64 (c.frames : Nat), .int .i64 (c.procs : Nat), .int .i64 (c.regions : Nat), .int .i64 (c.pages : Nat), .pointer (some ⟨D, 0, none⟩), .pointer (some ⟨P, 0, none⟩), .slice none 0 0, .slice none 0 0] → WoM V (w4.alloc (.cells cs 38)) w4.heap.size D P T M O (.slice none 0 0) (.slice none 0 0) (wo0 c f)) := fun cs e => by
              rw [e]
              refine WoM.made HBV3.out HST3.out fun g hg => ?_
              rw [hks] at hg ⊢
              have hgG : g = G := by
                simp only at hg
                split at hg
                · assumption
                · exact absurd rfl hg
              subst hgG
              exact ⟨by simp, kO, kP, kT, kM⟩
            have HKC : Hid (∀ {wr : World} {D P T M : Nat} {vA vL : Value} {x : WoS} {O : Nat → Prop}, WoM V wr w4.heap.size D P T M O vA vL x → G < wr.heap.size ∧ ∀ k, k < c.segs → wr.cell? ⟨G, o + k, none⟩ = some (.bool (f k))) := fun {wr D P T M vA vL x O} hm => by
              have hne : @kbF ks G ≠ none := by rw [hks]; simp [hG]
              have h1 := (hm.kp G hne).1
              rw [hks] at h1
              simp only [if_true] at h1
              have h2 : G < wr.heap.size := by
                rcases Nat.lt_or_ge G wr.heap.size with h2 | h2
                · exact h2
                · rw [Array.getElem?_eq_none h2] at h1
                  simp [hG] at h1
              exact ⟨h2, fun k hk => (World.cell?_of_block (w := w4) (w' := wr) h1).trans (hc k hk)⟩
            have HFI : Hid (WoInv f (wo0 c f)) := WoInv.zero hfl
            clear HFL3 HFS HKG hc hfl hf kO kP kT kM hks HSG
            obtain ⟨q0, q1, q2, q3, q4, q5, q6, q7, q8⟩ := HBX3.out
            go_upto_region 20 with (fail)
            refine wp_forget (fun Y => WoM V Y w4.heap.size D P T M O (.slice none 0 0) (.slice none 0 0) (wo0 c f) ∧ BoxC Y w.heap.size c) ⟨HMW.out _ rfl, HBX3.out.up fun j => ((Below.refl _ _).alloc (Nat.le_refl _) _).cell (p := ⟨w.heap.size, j, none⟩) lw3⟩ ?_
            rintro Y ⟨hmy, hby⟩
            obtain ⟨Wb, hWb⟩ : ∃ Wb, Wb = w4.heap.size := ⟨_, rfl⟩
            rw [← hWb] at hmy HKC ⊢
            clear HMW HST3 HBX3 q0 q1 q2 q3 q4 q5 q6 q7 q8
            obtain ⟨q0, q1, q2, q3, q4, q5, q6, q7, q8⟩ := hby
            have HMY := Lib.hid hmy
            obtain ⟨lG, hcy⟩ := HKC.out hmy
            have lWb := hmy.lts.1
            have lwy : w.heap.size < Y.heap.size := Nat.lt_of_lt_of_le hwg hmy.bel.size
            have HCY := Lib.hid hcy
            have c10 := hmy.c10
            have HBXV : Hid (BoxC V w.heap.size c) := (show BoxC Y w.heap.size c from ⟨q0, q1, q2, q3, q4, q5, q6, q7, q8⟩).up fun j => (hmy.bel.cell (p := ⟨w.heap.size, j, none⟩) hwg).symm
            obtain ⟨q, hq⟩ : ∃ q : Nat → Nat, q = fun j => (tbF c.segs f c.segs).cnt 0 j := ⟨_, rfl⟩
            have HQS : Hid (∀ j, j < c.segs → q (j + 1) = q j + if f j = false then 1 else 0) := fun j hj => by rw [hq]; exact cnt_step _ _ _ hj
            have HQL : Hid (∀ j, q j ≤ j) := fun j => by rw [hq]; exact TbS.cnt_le _ _ _
            have hq0 : q 0 = 0 := by rw [hq]; rfl
            have HLF : Hid (∀ g : Up Y, Calls Try.prog 28 #[.pointer (some ⟨P, 0, none⟩)] g.world fun e w' => e = .returned (.int .i64 (q c.segs * c.seg : Nat)) ∧ Below g.world.heap.size g.world w') := fun g => (stLeft_any (HMY.out.st.up g.h)).mono fun e w' ⟨h1, h2⟩ => by
              refine ⟨?_, h2⟩
              rw [h1, hq]
              rfl
            clear hmy hcy hq hWb lw3 hG HBV3 w4
            go_wp2_with fail
            go_loopw [13, 14] (fun s i wr => ∃ j : Nat, j ≤ c.segs ∧ i = .int .i64 (j : Nat) ∧ s = .int .i64 (q j : Nat) ∧ wr = Y) (fun _ i _ => c.segs - (intOf i).toNat)
            case atStart => exact ⟨0, Nat.zero_le _, rfl, by rw [hq0]; rfl, rfl⟩
            case round =>
              obtain ⟨j, hj, rfl, rfl, rfl⟩ := hrel
              clear hq0
              by_cases hlt : j < c.segs
              · have c0 := HCY.out j hlt
                have HQ1 := Lib.hid (HQS.out j hlt)
                have hqj := HQL.out j
                obtain ⟨t, ht⟩ : ∃ t, q j = t := ⟨_, rfl⟩
                rw [ht] at HQ1 hqj ⊢
                have u0 : (j : Int) < (c.segs : Int) := by omega
                have u1 : IntKind.i64.wrap ((t : Int) + 1) = (t : Int) + 1 := IntWalk.i64_in _ (by omega)
                clear ht
                cases hfj : f j with
                | true =>
                  rw [hfj] at c0 HQ1
                  go_wp2
                  go_roundw
                  case rel => exact ⟨j + 1, by omega, by go_num, by rw [HQ1.out]; simp, by first | rfl | trivial⟩
                  case measure => simp [intOf]; omega
                | false =>
                  rw [hfj] at c0 HQ1
                  go_wp2
                  go_roundw
                  case rel => exact ⟨j + 1, by omega, by go_num, by rw [HQ1.out]; simp, by first | rfl | trivial⟩
                  case measure => simp [intOf]; omega
              · obtain rfl : j = c.segs := by omega
                have hje : ¬ (c.segs : Int) < (c.segs : Int) := by omega
                clear hlt HQS
                have hqn := HQL.out c.segs
                obtain ⟨t, ht⟩ : ∃ t, q c.segs = t := ⟨_, rfl⟩
                rw [ht] at hqn HLF ⊢
                clear ht
                obtain ⟨m, hm⟩ : ∃ m, t * c.seg = m := ⟨_, rfl⟩
                have hml : m ≤ 65536 * 4096 := by rw [← hm]; exact Nat.mul_le_mul (by omega) hseg.2
                have e1 : (t : Int) * (c.seg : Int) = (m : Int) := by rw [← hm]; simp
                rw [hm] at HLF
                have w1 : IntKind.i64.wrap (m : Int) = (m : Int) := IntWalk.i64_in _ (by omega)
                clear hm hqn HQL
                go_upto_region 26 with (fail)
                refine wp_region_up (by kernel_rfl) (by kernel_rfl) ?_
                repeat (go_big_quiet_step (first | (go_at_call 28; exact Calls.up_of (HLF.out _))))
                refine wpQuiet_nil ?_
                rintro _ ⟨g, rfl⟩
                have HP0 : Hid (PutsAt f V Wb c 0 g.world) := PutsAt.zero ⟨D, P, T, M, O, _, _, HMY.out.up g.h, HFI.out⟩
                clear HLF e1 w1 hml HCY c10 HMY q0 q1 q2 q3 q4 q5 q6 q7 q8 HFI lG lWb lwy
                go_wp2_with fail
                go_loopw [15] (fun i wq => ∃ j : Nat, j ≤ n ∧ i = .int .i64 (j : Nat) ∧ PutsAt f V Wb c j wq) (fun i _ => n - (intOf i).toNat)
                case atStart => exact ⟨0, Nat.zero_le _, rfl, HP0.out⟩
                case round =>
                  obtain ⟨j, hj, rfl, hp⟩ := hrel
                  clear HP0
                  have HP := Lib.hid hp
                  by_cases hlt : j < n
                  · obtain ⟨G2, o2, rfl, hG2, hc2⟩ := HL.out (by omega)
                    have hbl := hp.bel
                    have c0 := (hbl.cell (p := ⟨G2, o2 + j, none⟩) (Nat.lt_of_lt_of_le hG2 HB0.out.size)).trans ((HB0.out.cell (p := ⟨G2, o2 + j, none⟩) hG2).trans (hc2 j hlt).1)
                    have hl2 : G2 < wr.heap.size := Nat.lt_of_lt_of_le (Nat.lt_of_lt_of_le hG2 HB0.out.size) hbl.size
                    have HPU : Hid (Calls Try.prog 17 #[.pointer (some ⟨Wb, 0, none⟩), (b j).v] wr fun e w' => e = .returned (.bool true) ∧ PutsAt f V Wb c (j + 1) w') := hp.put ((hc2 j hlt).2.up HB0.out) (HLE.out j hlt) hfs hfz (by omega)
                    unfold BArg.v at c0 HPU
                    have i1 : (j : Int) < (n : Int) := by omega
                    clear hp hc2 hbl
                    go_wp2_with fail
                    refine HPU.out.mono ?_
                    rintro _ w2 ⟨rfl, hp2⟩
                    have HP2 := Lib.hid hp2
                    clear hp2
                    go_wp2
                    go_roundw
                    case rel => exact ⟨j + 1, by omega, by go_num, HP2.out⟩
                    case measure => simp [intOf]; omega
                  · have hje : ¬ (j : Int) < (n : Int) := by omega
                    obtain ⟨x, ⟨D', P', T', M', O', vA, vL, hm, hi⟩, hxc, hpd, had⟩ := hp
                    clear HP
                    have HM := Lib.hid hm
                    have HI := Lib.hid hi
                    have hbl := hm.bel
                    have HBR : Hid (Below w.heap.size w wr) := below_upto HB0.out hbl (Nat.le_refl _)
                    obtain ⟨q0, q1, q2, q3, q4, q5, q6, q7, q8⟩ : BoxC wr w.heap.size c := HBXV.out.up fun j => hbl.cell (p := ⟨w.heap.size, j, none⟩) hwg
                    have lwr : w.heap.size < wr.heap.size := Nat.lt_of_lt_of_le hwg hbl.size
                    have lWb := hm.lts.1
                    have hm80 : x.ad.length ≤ 80 := by omega
                    obtain ⟨lG, hcr⟩ := HKC.out hm
                    have HCR := Lib.hid hcr
                    obtain ⟨Aa, ca, hva⟩ : ∃ Aa ca, vA = .slice Aa x.ad.length ca := by
                      rcases hm.rA.2 with ⟨hh, h0⟩ | ⟨g, cap, cur, hh, _⟩
                      · exact ⟨_, _, by rw [hh, h0]⟩
                      · exact ⟨_, _, hh⟩
                    have c11 : wr.cell? ⟨Wb, 11, none⟩ = some (.slice Aa x.ad.length ca) := by rw [hm.c11, hva]
                    have HVA := Lib.hid hva
                    have HXC := Lib.hid hxc
                    clear hm hi hbl hva hxc hpd had HL HLE hcr HKC
                    refine wp_upW (W := wr) fun g => ?_
                    go_wp2_with fail
                    go_loopw [16] (fun i wq => ∃ (j : Nat) (g : Up wr), j ≤ x.ad.length ∧ i = .int .i64 (j : Nat) ∧ wq = g.world) (fun i _ => x.ad.length - (intOf i).toNat)
                    case atStart => exact ⟨0, g, Nat.zero_le _, rfl, rfl⟩
                    case round =>
                      obtain ⟨j, g, hj, rfl, rfl⟩ := hrel
                      by_cases hlt : j < x.ad.length
                      · obtain ⟨⟨a', N'⟩, hp⟩ : ∃ p, x.ad[j]? = some p := ⟨_, List.getElem?_eq_getElem hlt⟩
                        obtain ⟨ha', hN', hn', _⟩ := HI.out.ads HM.out.st.ok j _ hp
                        have hj2 : j < x.bl.length := by rw [← HI.out.len]; exact hlt
                        obtain ⟨k, hq⟩ := HI.out.pl j a' N' x.bl[j] hp (List.getElem?_eq_getElem hj2)
                        have hkr := hq.r
                        rw [HXC.out] at hkr
                        have hk := hkr.hk
                        have c0 := HCR.out k hk
                        rw [hq.nf] at c0
                        have HOF : Hid (∀ w', Calls Try.prog 29 #[c.val, .int .i64 (a' : Nat)] w' fun e w'' => e = .returned (.int .i64 (k : Nat)) ∧ Below w'.heap.size w' w'') := fun w' => by
                          rw [← hkr.of HOK.out]
                          exact rOf_any w' HOK.out (a' : Nat) ⟨by omega, by simp only at ha'; omega⟩
                        obtain ⟨G3, cap, hG, hcap, _⟩ := World.ownsRow.form HM.out.rA (show 0 < x.ad.length by omega)
                        have k0 := World.ownsRow.cells HM.out.rA (g := G3) (by rw [hG]; rfl) (j * 2) _ (adCells_at _ j _ hp).1
                        have lG3 := (HM.out.lts.2.1 G3 (by rw [hG]; rfl)).2
                        rw [addr_plain'] at k0
                        rw [HVA.out] at hG
                        injection hG with e1 e2 e3
                        subst e1
                        unfold Cfg.val at HOF
                        have u0 : (j : Int) < (x.ad.length : Int) := by omega
                        have u1 : (k : Int) < (c.segs : Int) := by omega
                        have hk16 : k ≤ 65536 := by omega
                        clear hp hq hkr e2 e3 hcap hn' ha' hN'
                        go_upto_region 36 with (fail)
                        refine wp_region_upW (by kernel_rfl) (by kernel_rfl) ?_
                        repeat (go_big_quiet_step (first | (go_at_call 29; exact Calls.up_of (HOF.out _))))
                        refine wpQuiet_nil ?_
                        rintro _ ⟨g, rfl⟩
                        go_wp2
                        go_roundw
                        case rel => exact ⟨j + 1, g, by omega, by go_num, rfl⟩
                        case measure => simp [intOf]; omega
                      · have hje : ¬ (j : Int) < (x.ad.length : Int) := by omega
                        have HSM : Hid (∀ g : Up wr, Calls Try.prog 21 #[.pointer (some ⟨Wb, 0, none⟩)] g.world fun e w' => e = .returned (.bool true) ∧ WoM V w' Wb D' P' T' M' O' vA vL x) := fun g => same9_any (HM.out.up g.h) HI.out.len (HI.out.told HM.out.st.ok (fun b hb => (HM.out.bin b hb).2)) HI.out.on (by omega)
                        go_wp2_with fail
                        refine (HSM.out _).mono ?_
                        rintro _ w5 ⟨rfl, hm5⟩
                        have HF : Hid (Below w.heap.size w w5) := below_upto HB0.out hm5.bel (Nat.le_refl _)
                        clear hm5
                        go_wp2
                        go_ret
                        exact ⟨rfl, HF.out⟩
end Go.Proofs.Ytlmgihnnphmmhaa
