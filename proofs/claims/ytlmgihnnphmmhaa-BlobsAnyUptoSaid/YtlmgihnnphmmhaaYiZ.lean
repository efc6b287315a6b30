/- BlobsAny, walked. -/
import Derived.Test.YtlmgihnnphmmhaaYhZ
import Derived.Deep.CutRange
import Derived.Deep.RegionHeldLaw
namespace Go.Proofs.Ytlmgihnnphmmhaa
open Go.RowKit
set_option linter.unusedVariables false
set_option linter.unusedSimpArgs false

set_option maxRecDepth 100000 in
set_option maxHeartbeats 16000000 in
theorem any_yes (w : World) {c : Cfg} (hok : c.Ok) (hfs : c.sectors ≤ 3000) (hfz : c.z ≤ 512) {b : BArg} (hb : b.In w) (hbn : b.n ≤ maxLen) {a0 n0 : Int} (ha0 : -9223372036854775808 ≤ a0 ∧ a0 ≤ 9223372036854775807) {bl : BArg} (hbl : bl.In w) (hbln : bl.n ≤ maxLen) {se bit : Int} (hse : -9223372036854775808 ≤ se ∧ se ≤ 9223372036854775807) (hbit : -9223372036854775808 ≤ bit ∧ bit ≤ 9223372036854775807) {pat : Nat} (hpat : pat < 4294967296) :
    Calls Try.prog 9 #[c.val, b.v, addrV a0 n0, bl.v, .int .i64 se, .int .i64 bit, .int .u32 (pat : Nat)] w fun e w' => e = .returned (.bool true) ∧ Below w.heap.size w w' := by
  have HK : Hid (∀ w', Calls Try.prog 10 #[] w' fun e w'' => e = .returned (.bool true) ∧ Below w'.heap.size w' w'') := fun w' => known9_any w'
  have HF : Hid (∀ w', Calls Try.prog 11 #[c.val] w' fun e w'' => e = .returned (.bool true) ∧ Below w'.heap.size w' w'') := fun w' => fits_true w' hok hfs hfz
  have HBG : Hid (∀ w', Calls Try.prog 12 #[c.val] w' (BgPost (fun _ => false) c w')) := fun w' => begun_any w' hok
  have HSG : Hid (∀ w', Calls Try.prog 19 #[c.val] w' fun e w'' => e = .returned (.int .i64 (c.segs : Nat)) ∧ Below w'.heap.size w' w'') := fun w' => rSegments_any w' hok.pl
  have HOK := Lib.hid hok
  have HBI := Lib.hid hb
  have HBLI := Lib.hid hbl
  have hz1 := hok.h1
  have hsg := hok.h3
  have hs16 := hok.hs
  have hroom := hok.room
  have h0c := hok.h0
  obtain ⟨res, hres, hR1, hR2⟩ := right_both hok hfs hfz a0 n0 ha0
  have HRES := Lib.hid hres
  have HR1 := Lib.hid hR1
  have HR2 := Lib.hid hR2
  have HMD := Lib.hid (two_made w c a0 n0)
  have HB := Lib.hid (two_below w (.cells c.cells 23) (.cells #[.int .i64 a0, .int .i64 n0] 30))
  unfold maxLen at hbn hbln
  clear hok hb hbl hres hR1 hR2
  unfold Cfg.val addrV at HR1 HR2
  unfold Cfg.val at HF HBG HSG ⊢
  unfold Cfg.cells at HMD HB
  unfold BArg.v addrV
  go_enter Try.func9, Try.ntmps9
  go_upto_region 1 with (fail)
  refine wp_forget (fun W => (BoxC W w.heap.size c ∧ W.cell? ⟨w.heap.size + 1, 0, none⟩ = some (.int .i64 a0) ∧ W.cell? ⟨w.heap.size + 1, 1, none⟩ = some (.int .i64 n0)) ∧ Below w.heap.size w W ∧ w.heap.size + 1 < W.heap.size) ⟨HMD.out, HB.out, by simp⟩ ?_
  clear HMD HB
  rintro W ⟨⟨⟨q0, q1, q2, q3, q4, q5, q6, q7, q8⟩, t0, t1⟩, hbW, lW⟩
  have HBW := Lib.hid hbW
  have lW' : w.heap.size < W.heap.size := by omega
  clear hbW
  refine wp_upW (W := W) fun g => ?_
  go_wp2_with fail
  refine calls_upW (HK.out _) fun g => ?_
  go_wp2_with fail
  refine calls_upW (HF.out _) fun g => ?_
  have HG : Hid (Below w.heap.size w g.world) := below_upto HBW.out g.h (Nat.le_refl _)
  clear HK HF
  by_cases hbig : 8192 < b.n
  · have i1 : (b.n : Int) > 8192 := by omega
    go_wp2
    go_ret
    exact ⟨rfl, HG.out⟩
  have i1 : ¬ (b.n : Int) > 8192 := by omega
  by_cases hbig2 : 4096 < bl.n
  · have i2 : (bl.n : Int) > 4096 := by omega
    go_wp2
    go_ret
    exact ⟨rfl, HG.out⟩
  have i2 : ¬ (bl.n : Int) > 4096 := by omega
  have hn8 : b.n ≤ 8192 := by omega
  have hn4 : bl.n ≤ 4096 := by omega
  have hlg : w.heap.size + 1 < g.world.heap.size := Nat.lt_of_lt_of_le lW g.size
  obtain ⟨V, hV⟩ : ∃ V, V = g.world := ⟨_, rfl⟩
  have HBX : Hid (BoxC V w.heap.size c ∧ V.cell? ⟨w.heap.size + 1, 0, none⟩ = some (.int .i64 a0) ∧ V.cell? ⟨w.heap.size + 1, 1, none⟩ = some (.int .i64 n0)) := by
    rw [hV]
    exact ⟨(show BoxC W w.heap.size c from ⟨q0, q1, q2, q3, q4, q5, q6, q7, q8⟩).up fun j => g.cell (b := w.heap.size) (o := j) lW', (g.cell (b := w.heap.size + 1) (o := 0) lW).trans t0, (g.cell (b := w.heap.size + 1) (o := 1) lW).trans t1⟩
  go_upto_region 5 with (fail)
  rw [← hV]
  rw [← hV] at HG hlg
  clear hbn hbln hbig hbig2 q0 q1 q2 q3 q4 q5 q6 q7 q8 t0 t1 lW lW' HBW hV g
  obtain ⟨⟨q0, q1, q2, q3, q4, q5, q6, q7, q8⟩, t0, t1⟩ := HBX.out
  obtain ⟨n, hn⟩ : ∃ n, n = c.sectors * c.z := ⟨_, rfl⟩
  obtain ⟨lo, hlo⟩ : ∃ lo, lo = (2 + c.journal) * c.z := ⟨_, rfl⟩
  have hnl : n ≤ 3000 * 512 := by rw [hn]; exact Nat.mul_le_mul hfs hfz
  have hlon : lo < n := by
    have h1 : c.segs * 1 ≤ c.segs * c.seg := Nat.mul_le_mul_left _ (by omega)
    have h2 : (2 + c.journal + 1) * c.z ≤ c.sectors * c.z := Nat.mul_le_mul_right _ (by omega)
    rw [Nat.add_mul, Nat.one_mul, ← hlo, ← hn] at h2
    omega
  have m1 : (c.sectors : Int) * (c.z : Int) = (n : Int) := by rw [hn]; simp
  have m2 : (2 + (c.journal : Int)) * (c.z : Int) = (lo : Int) := by rw [hlo]; simp
  have m4 : (0 : Int) ≤ (lo : Int) := by omega
  have m5 : (lo : Int) ≤ (n : Int) := by omega
  have m6 : ¬ n = lo := by omega
  have HN := Lib.hid hn
  have hmk := run_make_bytes n (by omega) V
  have hhe := heap_alloc_new V (.cells (madeCells #[.int .u8 0] n) 5)
  rw [made_bytes] at hhe
  have hbal : Below V.heap.size V (V.alloc (.cells (madeCells #[.int .u8 0] n) 5)) := (Below.refl _ _).alloc (Nat.le_refl _) _
  have hmb := made_bytes n
  have hlg' : w.heap.size < V.heap.size := by omega
  have HAL : Hid ((V.alloc (.cells (madeCells #[.int .u8 0] n) 5)).heap[V.heap.size]? = some (.cells ((zeros n).map bv).toArray 5 (0, 0)) ∧ Below V.heap.size V (V.alloc (.cells (madeCells #[.int .u8 0] n) 5))) := by
    refine ⟨?_, hbal⟩
    have h := heap_alloc_new V (.cells (madeCells #[.int .u8 0] n) 5)
    rw [h, made_bytes]
  clear hhe hbal hmb hn hlo
  go_upto_region 6 with (fail)
  refine wp_forget (fun V5 => V5.heap[V.heap.size]? = some (.cells ((zeros n).map bv).toArray 5 (0, 0)) ∧ Below V.heap.size V V5) HAL.out ?_
  clear HAL hmk q0 q1 q2 q3 q4 q5 q6 q7 q8 t0 t1
  rintro V5 ⟨hhe, hbal⟩
  have HHE := Lib.hid hhe
  have HBAL := Lib.hid hbal
  have HBX5 : Hid (BoxC V5 w.heap.size c ∧ V5.cell? ⟨w.heap.size + 1, 0, none⟩ = some (.int .i64 a0) ∧ V5.cell? ⟨w.heap.size + 1, 1, none⟩ = some (.int .i64 n0)) := ⟨HBX.out.1.up fun j => hbal.cell (p := ⟨w.heap.size, j, none⟩) hlg', (hbal.cell (p := ⟨w.heap.size + 1, 0, none⟩) hlg).trans HBX.out.2.1, (hbal.cell (p := ⟨w.heap.size + 1, 1, none⟩) hlg).trans HBX.out.2.2⟩
  obtain ⟨⟨q0, q1, q2, q3, q4, q5, q6, q7, q8⟩, t0, t1⟩ := HBX5.out
  obtain ⟨X1, hX1⟩ : ∃ X1, X1 = (b.L.take (min b.n (n - lo))).map bv := ⟨_, rfl⟩
  have hXl : X1.length = Nat.min b.n (n - lo) := by
    rw [hX1, List.length_map, List.length_take, HBI.out.1.1]
    show min (min b.n (n - lo)) b.n = min b.n (n - lo)
    omega
  have HX1 := Lib.hid hX1
  have HXL := Lib.hid hXl
  have HXP : Hid (0 < X1.length → some (⟨V.heap.size, lo, none⟩ : Addr) = some ⟨V.heap.size, lo, none⟩ ∧ ∃ ad, b.A = some ad ∧ ∀ j v, X1[j]? = some v → V5.cell? (ad.add j) = some v) := fun hp => by
    have hbn0 : 0 < b.n := by
      rw [hXl] at hp
      have : Nat.min b.n (n - lo) ≤ b.n := Nat.min_le_left _ _
      omega
    obtain ⟨gb, ob, hA, hgb, hcb⟩ := (HBI.out.1.up HG.out).2 hbn0
    refine ⟨rfl, _, hA, fun j v hj => ?_⟩
    rw [show ∀ i, (⟨gb, ob, none⟩ : Addr).add i = ⟨gb, ob + i, none⟩ from fun i => by unfold Addr.add; split <;> simp_all]
    have hjl : j < X1.length := (List.getElem?_eq_some_iff.1 hj).1
    have hjb : j < b.n := by
      rw [hXl] at hjl
      have : Nat.min b.n (n - lo) ≤ b.n := Nat.min_le_left _ _
      omega
    rw [hbal.cell (p := ⟨gb, ob + j, none⟩) hgb, hcb j hjb]
    rw [hX1, List.getElem?_map, List.getElem?_take] at hj
    rw [if_pos (by
      have h1 := hjl
      rw [hXl] at h1
      exact h1)] at hj
    have hjL : j < b.L.length := by rw [HBI.out.1.1]; exact hjb
    rw [List.getElem?_eq_getElem hjL] at hj
    rw [at8_get hjL]
    exact hj
  have HX1o : Hid (∀ v ∈ X1, v.oneCell' = true) := fun v hv => by
    rw [hX1] at hv
    obtain ⟨x, _, rfl⟩ := List.mem_map.1 hv
    simp [bv, Value.oneCell']
  have HXF : Hid (lo + X1.length ≤ ((zeros n).map bv).length) := by
    rw [hXl, List.length_map, zeros_length]
    have : Nat.min b.n (n - lo) ≤ n - lo := Nat.min_le_right _ _
    show lo + Nat.min b.n (n - lo) ≤ n
    omega
  clear hX1 hXl hbal hhe
  go_upto_region 7 with ((refine wpList_copy_splice rfl (.tmp 59) (.tmp 60) 28 28 rfl 5 Try.underlying28 (by kernel_rfl) (some ⟨V.heap.size, lo, none⟩) b.A (n - lo) (n - lo) b.n b.c rfl rfl V.heap.size lo ((zeros n).map bv) 5 HHE.out X1 HXL.out HXP.out HXF.out HX1o.out V.heap.size V HBAL.out (Nat.le_refl _) ?_); intro w5 hg5 hb5)
  have hsb5 : SBy w5 (some ⟨V.heap.size, 0, none⟩) n (splice (zeros n) lo (b.L.take (min b.n (n - lo)))) := by
    have h1 := hg5.out
    rw [HX1.out, splice_map] at h1
    have h2 := SBy.of_row h1
    have h3 : (splice (zeros n) lo (b.L.take (min b.n (n - lo)))).length = n := by
      have h4 := HXF.out
      rw [HX1.out, List.length_map, List.length_map] at h4
      rw [length_splice _ _ _ h4, zeros_length]
    rw [h3] at h2
    exact h2
  have hl5 : V.heap.size < w5.heap.size := by
    obtain ⟨_, _, e, h, _⟩ := hsb5.2 (by omega)
    injection e with e
    injection e with e1 e2
    rw [e1]; exact h
  have HOF0 : Hid (Calls Try.prog 35 #[.slice (some ⟨V.heap.size, 0, none⟩) n n, .int .i64 (c.z : Nat)] w5 (OfPost w5 c.sectors c.z)) := by
    have e := HN.out
    rw [e] at hsb5 ⊢
    exact dkOf_any w5 (by omega) hsb5 (Nat.le_refl _) (fun g o e2 => by injection e2 with e2; injection e2 with e3; rw [← e3]; exact hl5)
  have HB5 : Hid (Below w.heap.size w w5) := below_upto HG.out hb5 (Nat.le_refl _)
  have HBX6 : Hid (BoxC w5 w.heap.size c ∧ w5.cell? ⟨w.heap.size + 1, 0, none⟩ = some (.int .i64 a0) ∧ w5.cell? ⟨w.heap.size + 1, 1, none⟩ = some (.int .i64 n0)) := ⟨HBX.out.1.up fun j => hb5.cell (p := ⟨w.heap.size, j, none⟩) hlg', (hb5.cell (p := ⟨w.heap.size + 1, 0, none⟩) hlg).trans HBX.out.2.1, (hb5.cell (p := ⟨w.heap.size + 1, 1, none⟩) hlg).trans HBX.out.2.2⟩
  have hl5' : w.heap.size + 1 < w5.heap.size := by omega
  clear hsb5 hg5 hb5 HXP HXF HX1o HX1 HXL HHE HBAL HBX5 q0 q1 q2 q3 q4 q5 q6 q7 q8 t0 t1 HBX HG HN m1 m2 m4 m5 m6 hlon hnl hl5
  obtain ⟨⟨q0, q1, q2, q3, q4, q5, q6, q7, q8⟩, t0, t1⟩ := HBX6.out
  go_wp2_with fail
  refine HOF0.out.mono ?_
  rintro _ w6 ⟨D, rfl, hb6, d, O, hd, hdS, hdz, hdo⟩
  have HD := Lib.hid hd
  have HDD := Lib.hid (And.intro hdS (And.intro hdz hdo))
  have HB6 : Hid (Below w.heap.size w w6) := below_upto HB5.out hb6 (Nat.le_refl _)
  have lw5 : w.heap.size < w5.heap.size := by omega
  have HBX7 : Hid (BoxC w6 w.heap.size c ∧ w6.cell? ⟨w.heap.size + 1, 0, none⟩ = some (.int .i64 a0) ∧ w6.cell? ⟨w.heap.size + 1, 1, none⟩ = some (.int .i64 n0)) := ⟨HBX6.out.1.up fun j => hb6.cell (p := ⟨w.heap.size, j, none⟩) lw5, (hb6.cell (p := ⟨w.heap.size + 1, 0, none⟩) hl5').trans HBX6.out.2.1, (hb6.cell (p := ⟨w.heap.size + 1, 1, none⟩) hl5').trans HBX6.out.2.2⟩
  have lw6 : w.heap.size + 1 < w6.heap.size := Nat.lt_of_lt_of_le hl5' hb6.size
  have HBV6 : Hid (w5.heap.size ≤ w6.heap.size) := hb6.size
  clear hd hdS hdz hdo hb6 HOF0 HBX6 HB5 q0 q1 q2 q3 q4 q5 q6 q7 q8 t0 t1
  go_upto_region 10 with (fail)
  obtain ⟨⟨q0, q1, q2, q3, q4, q5, q6, q7, q8⟩, t0, t1⟩ := HBX7.out
  have hsl : c.segs ≤ 65536 := hroom.2
  have hmk := fun w => run_make_bools c.segs (by omega) w
  have lw6' : w.heap.size < w6.heap.size := by omega
  have HS : Hid (∀ w', Below w6.heap.size w6 w' → w'.cell? ⟨w.heap.size, 0, none⟩ = some (.int .i64 (c.sectors : Nat)) ∧ w'.cell? ⟨w.heap.size, 1, none⟩ = some (.int .i64 (c.z : Nat)) ∧ w'.cell? ⟨w.heap.size, 2, none⟩ = some (.int .i64 (c.journal : Nat)) ∧ w'.cell? ⟨w.heap.size, 3, none⟩ = some (.int .i64 (c.seg : Nat)) ∧ w'.cell? ⟨w.heap.size, 4, none⟩ = some (.int .i64 (c.page : Nat)) ∧ w'.cell? ⟨w.heap.size, 5, none⟩ = some (.int .i64 (c.frames : Nat)) ∧ w'.cell? ⟨w.heap.size, 6, none⟩ = some (.int .i64 (c.procs : Nat)) ∧ w'.cell? ⟨w.heap.size, 7, none⟩ = some (.int .i64 (c.regions : Nat)) ∧ w'.cell? ⟨w.heap.size, 8, none⟩ = some (.int .i64 (c.pages : Nat))) := fun w' hb =>
    HBX7.out.1.up fun j => hb.cell (p := ⟨w.heap.size, j, none⟩) lw6'
  have HNW : Hid (∀ w2, Below w6.heap.size w6 w2 → Calls Try.prog 27 #[c.val, .pointer (some ⟨D, 0, none⟩), .slice (some ⟨w2.heap.size, 0, none⟩) c.segs c.segs] (w2.alloc (.cells (madeCells #[.bool false] c.segs) 4)) (NwPost w5.heap.size (w2.alloc (.cells (madeCells #[.bool false] c.segs) 4)) D O (st0 c d (fun _ => false)))) := fun w2 hb =>
    stNew_any (B := w5.heap.size) _ HOK.out (HD.out.up (hb.alloc hb.size _)) HDD.out.1 HDD.out.2.1 (SBo.made w2 c.segs) (Nat.le_trans HBV6.out (Nat.le_trans hb.size (by simp)))
  unfold Cfg.val at HNW
  go_region_held3 (fun w' => w'.cell? ⟨w.heap.size, 0, none⟩ = some (.int .i64 (c.sectors : Nat)) ∧ w'.cell? ⟨w.heap.size, 1, none⟩ = some (.int .i64 (c.z : Nat)) ∧ w'.cell? ⟨w.heap.size, 2, none⟩ = some (.int .i64 (c.journal : Nat)) ∧ w'.cell? ⟨w.heap.size, 3, none⟩ = some (.int .i64 (c.seg : Nat)) ∧ w'.cell? ⟨w.heap.size, 4, none⟩ = some (.int .i64 (c.page : Nat)) ∧ w'.cell? ⟨w.heap.size, 5, none⟩ = some (.int .i64 (c.frames : Nat)) ∧ w'.cell? ⟨w.heap.size, 6, none⟩ = some (.int .i64 (c.procs : Nat)) ∧ w'.cell? ⟨w.heap.size, 7, none⟩ = some (.int .i64 (c.regions : Nat)) ∧ w'.cell? ⟨w.heap.size, 8, none⟩ = some (.int .i64 (c.pages : Nat)))
    (first | exact HS.out _ HB3.out | exact HS.out _ HB2.out | exact HS.out _ (HB2.out.alloc HB2.out.size _) | go_keep)
    ((first | (go_at_call 19; refine (HSG.out _).mono ?_; rintro _ w7 ⟨rfl, hb2⟩; have HB2 : Hid (Below w6.heap.size w6 w7) := ((Below.refl _ _).drew).trans hb2; clear hb2) | (go_at_call 27; refine (HNW.out w7 HB2.out).mono ?_; rintro _ w8 ⟨P, rfl, hb3, T, M, hst⟩; have HST := Lib.hid hst; have HB3 : Hid (Below w6.heap.size w6 w8) := below_upto (HB2.out.alloc HB2.out.size _) hb3 (Nat.le_refl _); clear hst hb3)))
  have HB8 : Hid (Below w.heap.size w w8) := below_upto HB6.out HB3.out (Nat.le_refl _)
  have lw8 : w.heap.size + 1 < w8.heap.size := Nat.lt_of_lt_of_le lw6 HB3.out.size
  have lw58 : w5.heap.size ≤ w8.heap.size := Nat.le_trans HBV6.out HB3.out.size
  have HBX8 : Hid (BoxC w8 w.heap.size c ∧ w8.cell? ⟨w.heap.size + 1, 0, none⟩ = some (.int .i64 a0) ∧ w8.cell? ⟨w.heap.size + 1, 1, none⟩ = some (.int .i64 n0)) := ⟨HBX7.out.1.up fun j => HB3.out.cell (p := ⟨w.heap.size, j, none⟩) lw6', (HB3.out.cell (p := ⟨w.heap.size + 1, 0, none⟩) lw6).trans HBX7.out.2.1, (HB3.out.cell (p := ⟨w.heap.size + 1, 1, none⟩) lw6).trans HBX7.out.2.2⟩
  have HOL : Hid (∀ g, O g → w5.heap.size ≤ g ∧ g < w8.heap.size) := fun g hg => HST.out.lts.2.2.2 g hg
  clear HS HNW hmk HB3 HB2 HBX7 HD HB6 HBV6 lw6 lw6' HSG q0 q1 q2 q3 q4 q5 q6 q7 q8 t0 t1
  have HGT : Hid (Calls Try.prog 14 #[.pointer (some ⟨P, 0, none⟩), addrV a0 n0] w8 (GaPost O w8 res)) := getAny_any HST.out HDD.out.2.2 HRES.out (fun w => by unfold addrV; exact HR1.out w)
  unfold addrV at HGT
  obtain ⟨⟨q0, q1, q2, q3, q4, q5, q6, q7, q8⟩, t0, t1⟩ := HBX8.out
  go_wp2_with fail
  refine HGT.out.mono ?_
  rintro _ w9 ⟨A', n', c', er, rfl, ho, hcs⟩
  have hO1 : ¬ O w.heap.size := fun e => by have := (HOL.out _ e).1; omega
  have hO2 : ¬ O (w.heap.size + 1) := fun e => by have := (HOL.out _ e).1; omega
  have HBX9 : Hid (BoxC w9 w.heap.size c ∧ w9.cell? ⟨w.heap.size + 1, 0, none⟩ = some (.int .i64 a0) ∧ w9.cell? ⟨w.heap.size + 1, 1, none⟩ = some (.int .i64 n0)) := ⟨HBX8.out.1.up fun j => ho.cell (p := ⟨w.heap.size, j, none⟩) (by show w.heap.size < _; omega) hO1, (ho.cell (p := ⟨w.heap.size + 1, 0, none⟩) lw8 hO2).trans HBX8.out.2.1, (ho.cell (p := ⟨w.heap.size + 1, 1, none⟩) lw8 hO2).trans HBX8.out.2.2⟩
  have HB9 : Hid (Below w.heap.size w w9) := HB8.out.trans (ho.below (fun g hg => by have := (HOL.out g hg).1; omega) HB8.out.size)
  have lw9 : w.heap.size + 1 < w9.heap.size := Nat.lt_of_lt_of_le lw8 ho.size
  have HCS := Lib.hid hcs
  clear ho hcs HGT HBX8 HB8 HST HOL HDD HRES q0 q1 q2 q3 q4 q5 q6 q7 q8 t0 t1 lw8 lw58 hO1 hO2
  go_upto_region 14 with (fail)
  go_cut [134] from 96 to 134 (fun s134 wc => s134 = .bool false ∧ BoxC wc w.heap.size c ∧ Below w.heap.size w wc ∧ w.heap.size < wc.heap.size)
  case first =>
    obtain ⟨⟨q0, q1, q2, q3, q4, q5, q6, q7, q8⟩, t0, t1⟩ := HBX9.out
    have lw9' : w.heap.size < w9.heap.size := by omega
    have HFN : Hid (∀ g : Up w9, BoxC g.world w.heap.size c ∧ Below w.heap.size w g.world ∧ w.heap.size < g.world.heap.size) := fun g => ⟨HBX9.out.1.up fun j => g.h.cell (p := ⟨w.heap.size, j, none⟩) lw9', below_upto HB9.out g.h (Nat.le_refl _), Nat.lt_of_lt_of_le lw9' g.h.size⟩
    clear HBX9
    rcases HCS.out with ⟨rfl, rfl, rfl⟩ | ⟨rfl, rfl⟩ | ⟨rfl, rfl, rfl⟩
    all_goals
      refine wp_region_up (by kernel_rfl) (by kernel_rfl) ?_
      repeat (go_big_quiet_step (first | (go_at_call 36; exact Calls.up_of (HR1.out _)) | (go_at_call 37; exact Calls.up_of (HR2.out _))))
      refine wpQuiet_nil ?_
      rintro _ ⟨g, rfl⟩
      have HFF := Lib.hid (HFN.out g)
      go_wp2_with fail
      go_meet
      exact ⟨rfl, HFF.out⟩
  case rest =>
    obtain ⟨rfl, hbx, hbw, lw⟩ := hcut
    obtain ⟨V2, hV2⟩ : ∃ V2, V2 = wc := ⟨_, rfl⟩
    subst hV2
    have HBX := Lib.hid hbx
    have HBW := Lib.hid hbw
    clear hbx hbw HBX9 HB9 HCS HR1 HR2 lw9
    obtain ⟨q0, q1, q2, q3, q4, q5, q6, q7, q8⟩ := HBX.out
    go_wp2_with fail
    refine (HBG.out _).mono ?_
    rintro _ w1 ⟨Wb, rfl, hwo⟩
    have HPU : Hid (Calls Try.prog 17 #[.pointer (some ⟨Wb, 0, none⟩), bl.v] w1 (PuPost (fun _ => false) V2 Wb (wo0 c (fun _ => false)) bl)) := put9_any hwo (HBLI.out.up HBW.out) (by omega) hfs hfz (Nat.zero_le _) (Nat.zero_le _)
    unfold BArg.v at HPU
    clear hwo HBG q0 q1 q2 q3 q4 q5 q6 q7 q8
    go_wp2_with fail
    refine HPU.out.mono ?_
    rintro _ w2 ⟨rfl, x, ⟨D, P, T, M, O, vA, vL, hm, hi⟩, hxc, _, hx⟩
    have hc0 : (wo0 c (fun _ => false)).s.c = c := rfl
    rw [hc0] at hxc
    have hlen : x.ad = [] ∨ ∃ a N, x.ad = [(a, N)] ∧ x.bl = [bl] := by
      rcases hx with rfl | ⟨k, u, _, _, rfl⟩
      · exact .inl rfl
      · exact .inr ⟨_, _, rfl, rfl⟩
    clear hx HPU
    obtain ⟨Aa, ca, hva⟩ : ∃ Aa ca, vA = .slice Aa x.ad.length ca := by
      rcases hm.rA.2 with ⟨hh, h0⟩ | ⟨g, cap, cur, hh, _⟩
      · exact ⟨_, _, by rw [hh, h0]⟩
      · exact ⟨_, _, hh⟩
    have c11 : w2.cell? ⟨Wb, 11, none⟩ = some (.slice Aa x.ad.length ca) := by rw [hm.c11, hva]
    have lWb := hm.lts.1
    have HBR : Hid (Below w.heap.size w w2) := below_upto HBW.out hm.bel (Nat.le_refl _)
    rcases hlen with h0 | ⟨a, N, h0, h1⟩
    · rw [h0] at c11
      clear hm hi hva h0
      simp only [List.length_nil] at c11
      go_wp2
      go_ret
      exact ⟨rfl, HBR.out⟩
    · obtain ⟨k, hp⟩ := hi.pl 0 a N bl (by rw [h0]; rfl) (by rw [h1]; rfl)
      have hof := hi.on
      have hrn := hp.r
      obtain ⟨G, cap, hG, hcap, _⟩ := World.ownsRow.form hm.rA (show 0 < x.ad.length by rw [h0]; simp)
      have k0 := World.ownsRow.cells hm.rA (g := G) (by rw [hG]; rfl) (0 * 2) _ (adCells_at _ 0 (a, N) (by rw [h0]; rfl)).1
      have k1 := World.ownsRow.cells hm.rA (g := G) (by rw [hG]; rfl) (0 * 2 + 1) _ (adCells_at _ 0 (a, N) (by rw [h0]; rfl)).2
      have lG := (hm.lts.2.1 G (by rw [hG]; rfl)).2
      rw [addr_plain'] at k0 k1
      simp only [Nat.zero_mul, Nat.zero_add] at k0 k1
      rw [hva] at hG
      injection hG with e1 e2 e3
      subst e1
      rw [h0] at c11
      simp only [List.length_cons, List.length_nil, Nat.zero_add] at c11
      have c9 := hm.c9
      have c10 := hm.c10
      have HST := Lib.hid hm.st
      have hdW := hm.dW
      have hbelV := hm.bel
      have HBV := Lib.hid hbelV
      have HBX2 : Hid (BoxC w2 w.heap.size c) := HBX.out.up fun j => hbelV.cell (p := ⟨w.heap.size, j, none⟩) lw
      have lw2 : w.heap.size < w2.heap.size := Nat.lt_of_lt_of_le lw hbelV.size
      have HPL := Lib.hid hp
      have HOF := Lib.hid hof
      have HRN : Hid (RightN c a N k) := by rw [← hxc]; exact hrn
      have hnn := hrn.hn
      have HXC := Lib.hid hxc
      clear hm hi hva h0 h1 hp hof hrn hcap e2 e3 hbelV HBX HBW
      go_upto_region 22 with (fail)
      have b1 := heap_alloc_new w2 (.cells #[.int .i64 (a : Nat), .int .i64 (N : Nat)] 30)
      have hal : Below w2.heap.size w2 (w2.alloc (.cells #[.int .i64 (a : Nat), .int .i64 (N : Nat)] 30)) := (Below.refl _ _).alloc (Nat.le_refl _) _
      obtain ⟨B6, hB6⟩ : ∃ B6, B6 = w2.heap.size := ⟨_, rfl⟩
      have hol := HST.out.lts.2.2.2
      refine wp_forget (fun W7 => AnyS w V2 W7 c B6 Wb P D T M a N O x.s)
        ⟨HBX2.out.up fun j => hal.cell (p := ⟨w.heap.size, j, none⟩) lw2, by rw [hB6, cell_of_row _ _ _ _ _ _ b1]; rfl, by rw [hB6, cell_of_row _ _ _ _ _ _ b1]; rfl, (hal.cell (p := ⟨Wb, 9, none⟩) lWb).trans c9, (hal.cell (p := ⟨Wb, 10, none⟩) lWb).trans c10, HST.out.up hal, below_upto HBR.out hal (Nat.le_refl _), ⟨fun e => by have := (hol _ e).1; omega, fun e => by have := (hol _ e).2; omega, hdW.1⟩, lw, Nat.le_trans HBV.out.size hal.size⟩ ?_
      rw [← hB6]
      clear b1 hal k0 k1 lG c9 c10 c11 HBX2 HBV lw2 lWb HBR HST hB6 hol hdW
      rintro W7 hs7
      have HS7 := Lib.hid hs7
      have HSC : Hid (∀ w', Calls Try.prog 15 #[.agg #[.int .i64 (c.sectors : Nat), .int .i64 (c.z : Nat), .int .i64 (c.journal : Nat), .int .i64 (c.seg : Nat), .int .i64 (c.page : Nat), .int .i64 (c.frames : Nat), .int .i64 (c.procs : Nat), .int .i64 (c.regions : Nat), .int .i64 (c.pages : Nat)], .agg #[.int .i64 (a : Nat), .int .i64 (N : Nat)]] w' fun e w'' => e = .returned (.int .i64 (secs c.z N : Nat)) ∧ Below w'.heap.size w' w'') := fun w' => sectors9_any w' HOK.out a N (by omega)
      have hSp := secs_pos (z := c.z) (n := N) (by omega) (by omega)
      have hS0 : a + secs c.z N ≤ c.sectors := by
        have h1 := HRN.out.hi
        have h2 := HRN.out.hk
        have h4 : (k + 1) * c.seg ≤ c.segs * c.seg := Nat.mul_le_mul_right _ h2
        rw [Nat.add_mul, Nat.one_mul] at h4
        omega
      obtain ⟨S, hS⟩ : ∃ S, S = secs c.z N := ⟨_, rfl⟩
      have HSD := Lib.hid hS
      rw [← hS] at hS0 hSp HSC
      have lw7 : w.heap.size < W7.heap.size := by have := hs7.lw; omega
      have l67 := lt_of_cell hs7.t0
      obtain ⟨q0, q1, q2, q3, q4, q5, q6, q7, q8⟩ := hs7.bx
      have t0 := hs7.t0
      have t1 := hs7.t1
      clear hs7 hS
      go_wp2_with fail
      refine (HSC.out _).mono ?_
      rintro _ W8 ⟨rfl, hb8⟩
      have HS8 := Lib.hid (HS7.out.up hb8)
      clear hb8 HS7 HSC q0 q1 q2 q3 q4 q5 q6 q7 q8 t0 t1 lw7 l67
      have m0 : ¬ S = 0 := by omega
      have m0' : ¬ (S : Int) = 0 := by omega
      have m0'' : ((S : Int) == 0) = false := beq_eq_false_iff_ne.2 m0'
      obtain ⟨tm, htm⟩ : ∃ tm, se.tmod (S : Int) = tm := ⟨_, rfl⟩
      have htb : -(S : Int) < tm ∧ tm < (S : Int) := by
        rw [← htm]
        exact ⟨Int.lt_tmod_of_pos _ (by omega), Int.tmod_lt_of_pos _ (by omega)⟩
      have v0 : IntKind.i64.wrap tm = tm := IntWalk.i64_in _ (by omega)
      have v1 : IntKind.i64.wrap (tm + (S : Int)) = tm + (S : Int) := IntWalk.i64_in _ (by omega)
      obtain ⟨t, ht, hcase⟩ : ∃ t : Nat, t < S ∧ ((0 ≤ tm ∧ tm = (t : Int)) ∨ (tm < 0 ∧ tm + (S : Int) = (t : Int))) := by
        by_cases h0 : 0 ≤ tm
        · exact ⟨tm.toNat, by omega, .inl ⟨h0, by omega⟩⟩
        · exact ⟨(tm + (S : Int)).toNat, by omega, .inr ⟨by omega, by omega⟩⟩
      have HHC := Lib.hid hcase
      clear hcase
      go_upto_if 164 with (fail)
      go_cut [4] from 165 to 167 (fun s4 wq => s4 = .int .i64 (t : Nat) ∧ wq = W8)
      case first =>
        rcases HHC.out with ⟨h1, h2⟩ | ⟨h1, h2⟩
        · have h3 : ¬ tm < 0 := by omega
          have H2 := Lib.hid h2
          clear h2
          go_wp2_with fail
          go_meet
          exact ⟨by rw [H2.out], rfl⟩
        · have H2 := Lib.hid h2
          clear h2
          go_wp2_with fail
          go_meet
          exact ⟨by rw [H2.out], rfl⟩
      case rest =>
        obtain ⟨rfl, rfl⟩ := hcut
        clear HHC htb v0 v1 htm
        have HOKS := Lib.hid HS8.out.st.ok
        have HANS : Hid (x.s.d.ans ((a + t : Nat) : Int) = (x.s.d.read (a + t), 0)) := Lib.hid (by
          unfold DkS.ans
          rw [if_neg (by rw [HOF.out]; simp), if_pos ⟨by omega, by rw [HS8.out.st.ok.dS, HXC.out]; omega⟩, Int.toNat_natCast])
        have i2 : IntKind.i64.wrap ((a : Int) + (t : Int)) = ((a + t : Nat) : Int) := by rw [IntWalk.i64_in _ (by omega)]; omega
        have t0 := HS8.out.t0
        have c9 := HS8.out.c9
        have l0 := lt_of_cell t0
        have l9 := lt_of_cell c9
        go_upto_region 26 with (fail)
        refine wp_region_up_tail 8 (by kernel_rfl) (by kernel_rfl) (by kernel_rfl) ?_
        simp only [List.take_succ_cons, List.take_zero, List.drop_succ_cons, List.drop_zero]
        repeat (go_big_quiet_step (fail))
        refine wpQuiet_nil ?_
        rintro _ ⟨g, rfl⟩
        have HSG' := Lib.hid (HS8.out.up g.h)
        have HRC : Hid (Calls Try.prog 23 #[.pointer (some ⟨D, 0, none⟩), .int .i64 ((a + t : Nat) : Int)] g.world fun e w' => ∃ A' n' c', e = .returned (.tuple #[.slice A' n' c', .int .i64 0]) ∧ OwnA O w' A' n' (x.s.d.read (a + t)) ∧ DkAt V2.heap.size w' D x.s.d O ∧ Off O g.world w') := (dkRead_any HSG'.out.st.dk _).mono fun e w' hq => by
          obtain ⟨A', n', c', he, ⟨wx, hfr, hwx⟩, hd, ho⟩ := hq
          rw [HANS.out] at he hfr
          refine ⟨A', n', c', he, ⟨hfr.sby, fun b o e2 e3 => ?_⟩, hd, ho⟩
          have h1 := (hfr.own.lt b (by rw [e2]; rfl)).1
          have h2 := (HSG'.out.st.lts.2.2.2 b e3).2
          omega
        clear HS8 t0 c9 l0 l9
        go_wp2_with fail
        refine HRC.out.mono ?_
        rintro _ W9 ⟨A1, n1, c1, rfl, hold, hd, ho⟩
        have hs9 := HSG'.out.read hd ho
        have hrl := hs9.st.dk.read_len (k := a + t) (by rw [hs9.st.ok.dS, HXC.out]; omega)
        have hn1 : n1 = c.z := by rw [← hold.1.1, hrl, hs9.st.ok.dz, HXC.out]
        subst hn1
        have HOLD := Lib.hid hold
        have HS9 := Lib.hid hs9
        have t0 := hs9.t0
        have c9 := hs9.c9
        have l0 := lt_of_cell t0
        have l9 := lt_of_cell c9
        clear hold hs9 hd ho hrl HRC HSG'
        go_upto_region 27 with (fail)
        refine wp_region_up_tail 10 (by kernel_rfl) (by kernel_rfl) (by kernel_rfl) ?_
        simp only [List.take_succ_cons, List.take_zero, List.drop_succ_cons, List.drop_zero]
        repeat (go_big_quiet_step (fail))
        refine wpQuiet_nil ?_
        rintro _ ⟨g2, rfl⟩
        have HSG2 := Lib.hid (HS9.out.up g2.h)
        have HOLD2 : Hid (OwnA O g2.world A1 c.z (x.s.d.read (a + t))) := HOLD.out.off (Off.of_below g2.h)
        have HBU : Hid (Calls Try.prog 38 #[.pointer (some ⟨D, 0, none⟩), .int .i64 ((a + t : Nat) : Int), .int .i64 bit, .int .u32 (pat : Nat)] g2.world (DbPost V2.heap.size g2.world D x.s.d O (a + t) bit pat)) := dkBurst_any HSG2.out.st.dk (by rw [HSG2.out.st.ok.dS, HXC.out]; omega) hbit hpat
        clear HS9 HOLD t0 c9 l0 l9
        go_wp2_with fail
        refine HBU.out.mono ?_
        rintro _ W10 ⟨⟨rr, rfl⟩, d', O', hd, hbo, hdS, hdo, ho, hO'⟩
        have hs10 := HSG2.out.burst hd ho hO' hdS hbo.z
        have HS10 := Lib.hid hs10
        have HOLD3 := Lib.hid (HOLD2.out.more (by omega) ho hO')
        have HBO := Lib.hid hbo
        have HDO : Hid (d'.off = false) := Lib.hid (hdo.trans HOF.out)
        have HDS := Lib.hid hdS
        clear hs10 hd hbo hdS hdo ho hO' HBU HSG2 HOLD2
        have hdS2 : d'.S = c.sectors := HS10.out.st.ok.dS.trans (by show x.s.c.sectors = c.sectors; rw [HXC.out])
        have HDS2 := Lib.hid hdS2
        clear hdS2
        have HANS2 : Hid (d'.ans ((a + t : Nat) : Int) = (d'.read (a + t), 0)) := Lib.hid (by
          unfold DkS.ans
          rw [if_neg (by rw [HDO.out]; simp), if_pos ⟨by omega, by rw [HDS2.out]; omega⟩, Int.toNat_natCast])
        have t0 := HS10.out.t0
        have c9 := HS10.out.c9
        have l0 := lt_of_cell t0
        have l9 := lt_of_cell c9
        go_upto_region 28 with (fail)
        refine wp_region_up_tail 8 (by kernel_rfl) (by kernel_rfl) (by kernel_rfl) ?_
        simp only [List.take_succ_cons, List.take_zero, List.drop_succ_cons, List.drop_zero]
        repeat (go_big_quiet_step (fail))
        refine wpQuiet_nil ?_
        rintro _ ⟨g3, rfl⟩
        have HSG3 := Lib.hid (HS10.out.up g3.h)
        have HOLD4 : Hid (OwnA O' g3.world A1 c.z (x.s.d.read (a + t))) := HOLD3.out.off (Off.of_below g3.h)
        have HRC2 : Hid (Calls Try.prog 23 #[.pointer (some ⟨D, 0, none⟩), .int .i64 ((a + t : Nat) : Int)] g3.world fun e w' => ∃ A' n' c', e = .returned (.tuple #[.slice A' n' c', .int .i64 0]) ∧ OwnA O' w' A' n' (d'.read (a + t)) ∧ DkAt V2.heap.size w' D d' O' ∧ Off O' g3.world w') := (dkRead_any HSG3.out.st.dk _).mono fun e w' hq => by
          obtain ⟨A', n', c', he, ⟨wx, hfr, hwx⟩, hd, ho⟩ := hq
          rw [HANS2.out] at he hfr
          refine ⟨A', n', c', he, ⟨hfr.sby, fun b o e2 e3 => ?_⟩, hd, ho⟩
          have h1 := (hfr.own.lt b (by rw [e2]; rfl)).1
          have h2 := (HSG3.out.st.lts.2.2.2 b e3).2
          omega
        clear HS10 HOLD3 t0 c9 l0 l9
        go_wp2_with fail
        refine HRC2.out.mono ?_
        rintro _ W11 ⟨A2, n2, c2, rfl, hnow, hd, ho⟩
        have hs11 := HSG3.out.read hd ho
        have HS11 := Lib.hid hs11
        have HNOW := Lib.hid hnow
        have HOLD5 := Lib.hid (HOLD4.out.off ho)
        have t0 := hs11.t0
        have t1 := hs11.t1
        have c10 := hs11.c10
        have l0 := lt_of_cell t0
        have l10 := lt_of_cell c10
        clear hs11 hnow hd ho HRC2 HSG3 HOLD4
        go_upto_region 29 with (fail)
        refine wp_region_up_tail 5 (by kernel_rfl) (by kernel_rfl) (by kernel_rfl) ?_
        simp only [List.take_succ_cons, List.take_zero, List.drop_succ_cons, List.drop_zero]
        repeat (go_big_quiet_step (fail))
        refine wpQuiet_nil ?_
        rintro _ ⟨g4, rfl⟩
        have HSG4 := Lib.hid (HS11.out.up g4.h)
        have HOLD6 : Hid (OwnA O' g4.world A1 c.z (x.s.d.read (a + t))) := HOLD5.out.off (Off.of_below g4.h)
        have HNOW2 : Hid (OwnA O' g4.world A2 n2 (d'.read (a + t))) := HNOW.out.off (Off.of_below g4.h)
        obtain ⟨r, hr⟩ : ∃ r, r = d'.getB a N := ⟨_, rfl⟩
        have hgb := HBO.out.getB HPL.out HOKS.out (by rw [HBLI.out.1.1]; omega) (by rw [HXC.out, ← HSD.out]; exact ht)
        rw [← hr] at hgb
        have HGB := Lib.hid hgb
        have HGE : Hid (Calls Try.prog 14 #[.pointer (some ⟨P, 0, none⟩), addrV a N] g4.world fun e w' => ∃ A' n' c', e = .returned (.tuple #[.slice A' n' c', .int .i64 (r.2 : Nat)]) ∧ SBy w' A' n' r.1 ∧ Off O' g4.world w') := (stGet_any HSG4.out.st (show RightN x.s.c a N k by rw [HXC.out]; exact HRN.out) HDO.out).mono fun e w' hq => by
          obtain ⟨A', n', c', he, ⟨wx, hfr, _⟩, _, ho⟩ := hq
          simp only at he hfr
          rw [← hr] at he hfr
          exact ⟨A', n', c', he, hfr.sby, ho⟩
        unfold addrV at HGE
        clear HS11 HNOW HOLD5 t0 t1 c10 l0 l10 hgb hr
        go_wp2_with fail
        refine HGE.out.mono ?_
        rintro _ W12 ⟨A3, n3, c3, rfl, hz3, ho⟩
        have HBF : Hid (Below w.heap.size w W12) := (HSG4.out.cells ho).2.2.2.2.2
        have ho1 := (HOLD6.out.off ho).1
        have ho2 := (HNOW2.out.off ho).1
        have HO1 := Lib.hid ho1
        have HO2 := Lib.hid ho2
        have hcv1 := ho1.str c1
        have hcv2 := ho2.str c2
        have HZ3 := Lib.hid hz3
        have hcb : SBy W12 bl.A bl.n bl.L := HBLI.out.1.up HBF.out
        have HCB := Lib.hid hcb
        have HHE := Lib.hid HBO.out.at_
        obtain ⟨L1, hL1⟩ : ∃ L1, L1 = x.s.d.read (a + t) := ⟨_, rfl⟩
        obtain ⟨L2, hL2⟩ : ∃ L2, L2 = d'.read (a + t) := ⟨_, rfl⟩
        rw [← hL1] at hcv1 HO1 HHE HGB
        rw [← hL2] at hcv2 HO2 HHE HGB
        clear ho ho1 ho2 hz3 hcb HGE HSG4 HOLD6 HNOW2 hL1 hL2 HANS HANS2 HBO
        have HC12 := Lib.hid (And.intro hcv1 hcv2)
        clear hcv1 hcv2
        rcases HGB.out with ⟨hg1, hg2⟩
        by_cases hEq : L2 = L1
        · have hrr := hg1 hEq
          subst hrr
          have hcv1 := HC12.out.1
          have hcv2 := HC12.out.2
          rw [hEq] at hcv2
          have hcv3 := HZ3.out.str c3
          have hcv4 := HCB.out.str bl.c
          simp only at hcv3 ⊢
          clear hg1 hg2 HGB HHE hEq HC12
          go_wp2
          go_ret
          exact ⟨rfl, HBF.out⟩
        · have hstr : ((strB L1).toList == (strB L2).toList) = false := by rw [strB_eq]; exact decide_eq_false (fun e => hEq e.symm)
          rcases hg2 with hrr | hrr
          · subst hrr
            have hcv1 := HC12.out.1
            have hcv2 := HC12.out.2
            have hcv3 := HZ3.out.str c3
            have hcv4 := HCB.out.str bl.c
            simp only at hcv3 ⊢
            clear hg1 HGB HHE hEq HC12
            go_wp2
            go_ret
            exact ⟨rfl, HBF.out⟩
          · subst hrr
            have hcv1 := HC12.out.1
            have hcv2 := HC12.out.2
            simp only
            clear hg1 HGB hEq
            have HRB : Hid (Calls Try.prog 39 #[.slice A1 c.z c1, .int .i64 bit, .int .u32 (pat : Nat)] W12.drew (BuPost W12.drew c.z L2)) := by
              rw [HHE.out]
              exact rburst_any W12.drew A1 c.z c1 L1 HO1.out.drew (by omega) hbit hpat
            have HCN : Hid (∀ w', Below W12.heap.size W12 w' → (convert 28 9 (.slice A2 n2 c2)).run Try.prog w' = .ok (.string (strB L2)) w') := fun w' hb => (HO2.out.up hb).str c2
            go_upto_region 32 with (fail)
            clear hcv1 hcv2 HC12 HHE
            have hcvd := HCN.out W12.drew (Below.refl _ _).drew
            go_region_held_law (fun w' => (convert 28 9 (.slice A2 n2 c2)).run Try.prog w' = .ok (.string (strB L2)) w')
              (first | exact HCN.out _ HB13.out | go_keep)
              ((go_at_call 39; refine HRB.out.mono ?_; rintro _ w13 ⟨G13, c13, rfl, hsb13, _, _, hb13⟩; have HB13 : Hid (Below W12.heap.size W12 w13) := ((Below.refl _ _).drew).trans hb13; have hcva := hsb13.str c13; clear hsb13 hb13))
            all_goals
              have HBZ : Hid (Below w.heap.size w w13) := below_upto HBF.out HB13.out (Nat.le_refl _)
              clear hcvd hcva HB13 HCN HRB
              go_wp2
              go_ret
              exact ⟨rfl, HBZ.out⟩
end Go.Proofs.Ytlmgihnnphmmhaa
