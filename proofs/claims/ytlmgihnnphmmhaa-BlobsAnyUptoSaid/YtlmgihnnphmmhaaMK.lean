/- blobs: Get at a right place. blobs: Spoil at a right place. The laws' small functions: sectors, Shape, Fits, right. The laws: lists of blobs that came in; few. -/
import Derived.Test.YtlmgihnnphmmhaaMJ
import Derived.Test.YtlmgihnnphmmhaaLeZ
import Derived.Test.YtlmgihnnphmmhaaMC
import Derived.Test.YtlmgihnnphmmhaaMA
import Derived.Test.YtlmgihnnphmmhaaME
namespace Go.Proofs.Ytlmgihnnphmmhaa
open Go.RowKit
set_option linter.unusedVariables false
set_option linter.unusedSimpArgs false

/-- The first i sectors from a on, put together. -/
def DkS.joinR (d : DkS) (a : Nat) : Nat → Bytes
  | 0 => []
  | i + 1 => d.joinR a i ++ d.read (a + i)
/-- What stands in a frame of kind 1 of just n bytes. -/
def unFrame (F : Bytes) (n : Nat) : Bytes × Nat :=
  if (rdFrame F).2.2.2 ≠ 0 then ([], 20) else if (rdFrame F).1 ≠ 1 then ([], 20) else if (rdFrame F).2.2.1 ≠ n then ([], 20) else
  if (unpackB 1048576 (rdFrame F).2.1).2 ≠ 0 then ([], 20) else ((unpackB 1048576 (rdFrame F).2.1).1, 0)
theorem unFrame_ok {F pl : Bytes} {n : Nat} (h : rdFrame F = (1, pl, n, 0)) : unFrame F n = if (unpackB 1048576 pl).2 ≠ 0 then ([], 20) else ((unpackB 1048576 pl).1, 0) := by
  unfold unFrame
  rw [h, if_neg (by simp), if_neg (by simp), if_neg (by simp)]
theorem unFrame_bad {F pl : Bytes} {kd : UInt8} {m er n : Nat} (h : rdFrame F = (kd, pl, m, er)) (hb : er ≠ 0 ∨ kd ≠ 1 ∨ m ≠ n) : unFrame F n = ([], 20) := by
  unfold unFrame
  rw [h]
  by_cases h1 : er ≠ 0
  · rw [if_pos h1]
  rw [if_neg h1]
  by_cases h2 : kd ≠ 1
  · rw [if_pos h2]
  rw [if_neg h2]
  by_cases h3 : m ≠ n
  · rw [if_pos h3]
  · exact absurd hb (by simp only [h1, h2, h3, or_self, not_false_eq_true])
/-- What Get answers. -/
def DkS.getB (d : DkS) (a n : Nat) : Bytes × Nat := unFrame ((d.joinR a (secs d.z n)).take n) n
def GtPost (B : Nat) (w : World) (P D T M : Nat) (O : Nat → Prop) (s : StS) (r : Bytes × Nat) (e : Ending) (w' : World) : Prop :=
  ∃ A' n' c', e = .returned (.tuple #[.slice A' n' c', .int .i64 (r.2 : Nat)]) ∧ (∃ w1, FrB w1 w' (.slice A' n' c') r.1 ∧ w.heap.size ≤ w1.heap.size) ∧ StAt B w' P D T M O s ∧ Off O w w'
section
variable {B : Nat} {w w' : World} {P D T M : Nat} {O S : Nat → Prop} {s : StS}
theorem StAt.read (h : StAt B w P D T M O s) (hd : DkAt B w' D s.d O) (ho : Off O w w') : StAt B w' P D T M O s := by
  obtain ⟨d1, d2, d3, d4, d5⟩ := h.dis
  have l1 := lt_of_cell h.c9
  have c : ∀ i, w'.cell? ⟨P, i, none⟩ = w.cell? ⟨P, i, none⟩ := fun i => ho.cell (p := ⟨P, i, none⟩) l1 d1
  exact ⟨⟨h.bx.up c, (c 9).trans h.c9, (c 10).trans h.c10, (c 11).trans h.c11, (c 12).trans h.c12, fun i => (ho.frozen (p := ⟨P, i, none⟩) l1 d1).trans (h.zf i), hd, h.tb.off ho d2 d3, h.lo, d1, d2, d3, d4, d5⟩, h.ok⟩
theorem joinR_length {d : DkS} {a n : Nat} (h : ∀ i, i < n → (d.read (a + i)).length = d.z) : (d.joinR a n).length = n * d.z := by
  induction n with
  | zero => simp [DkS.joinR]
  | succ n ih =>
    unfold DkS.joinR
    rw [List.length_append, ih (fun i hi => h i (by omega)), h n (by omega), Nat.add_mul, Nat.one_mul]
theorem DkAt.read_len {D : Nat} {d : DkS} (h : DkAt B w D d O) {k : Nat} (hk : k < d.S) : (d.read k).length = d.z := by
  obtain ⟨Kb, Mb, pv, P, kv, Da, hi, _, _⟩ := h
  unfold DkS.read
  cases hl : lastOf d.pend k with
  | none =>
    simp only
    unfold DkS.keptB
    cases hkk : d.kept k with
    | none => simp [zeros]
    | some L => exact (hi.kb k L hk hkk).len
  | some i =>
    simp only
    obtain ⟨b, hb⟩ := lastOf_spec hl
    rw [List.getD_eq_getElem?_getD, hb]
    rw [hi.pd, List.getElem?_map] at hb
    cases hP : P[i]? with
    | none => rw [hP] at hb; cases hb
    | some p =>
      rw [hP] at hb
      simp at hb
      obtain ⟨h1, h2⟩ := hb
      rw [Option.getD_some, ← h2]
      exact (hi.pb p (List.mem_of_getElem? hP)).2.len
/-- The loop of Get at round j. -/
def GtLp (B P D T M : Nat) (O : Nat → Prop) (s : StS) (w5 : World) (a j : Nat) (f : Value) (wr : World) : Prop :=
  ∃ A n c, f = .slice A n c ∧ n = j * s.d.z ∧ OwB w5.heap.size wr (.slice A n c) (s.d.joinR a j) ∧ StAt B wr P D T M O s ∧ Off O w5 wr
theorem openB_le (L : Bytes) : (openB L).1.length ≤ L.length := by
  by_cases h : (openB L).2 = 0
  · rw [(openB_ok h).2, List.length_take]
    exact Nat.min_le_right _ _
  · rw [openB_bad h]
    exact Nat.zero_le _
theorem ite_len {c : Prop} [Decidable c] {a b : UInt8 × Bytes × Nat × Nat} {n : Nat} (ha : a.2.1.length ≤ n) (hb : b.2.1.length ≤ n) : (if c then a else b).2.1.length ≤ n := by
  split
  · exact ha
  · exact hb
theorem take_drop_le (F : Bytes) (a b : Nat) : ((F.drop a).take b).length ≤ F.length := by
  rw [List.length_take, List.length_drop]
  exact Nat.le_trans (Nat.min_le_right _ _) (Nat.sub_le _ _)
theorem rdFrame_fst1 (F : Bytes) (v : Nat) : ((F.getD 0 0), (openB ((F.drop 9).take (v + 4))).1, 13 + v, 0).2.1.length ≤ F.length := Nat.le_trans (openB_le _) (take_drop_le _ _ _)
theorem rdFrame_fst (F : Bytes) : (rdFrame F).2.1.length ≤ F.length := by
  unfold rdFrame
  refine ite_len (Nat.zero_le _) (ite_len (Nat.zero_le _) (ite_len (Nat.zero_le _) (ite_len (Nat.zero_le _) (ite_len (Nat.zero_le _) ?_))))
  exact rdFrame_fst1 F _
set_option maxRecDepth 100000 in
set_option maxHeartbeats 4000000 in
theorem stGet_any (h : StAt B w P D T M O s) {a n k : Nat} (r : RightN s.c a n k) (hof : s.d.off = false) :
    Calls Try.prog 14 #[.pointer (some ⟨P, 0, none⟩), addrV a n] w (GtPost B w P D T M O s (s.d.getB a n)) := by
  have H := Lib.hid h
  have hn := r.hn
  obtain ⟨l1, l2, l3, l4⟩ := h.lts
  have HOF := Lib.hid hof
  have HRT : Hid (∀ w', Calls Try.prog 36 #[s.c.val, addrV a n] w' fun e w'' => e = .returned (.bool true) ∧ Below w'.heap.size w' w'') := fun w' => right_true w' h.ok.ok r
  have HSE : Hid (∀ w', Calls Try.prog 44 #[s.c.val, addrV a n] w' fun e w'' => e = .returned (.int .i64 (secs s.c.z n : Nat)) ∧ Below w'.heap.size w' w'') := fun w' => sectors_any w' h.ok.ok a n (by omega) (by omega)
  have hroom := h.ok.ok.room
  have hkl : k * s.c.seg + s.c.seg ≤ s.c.segs * s.c.seg := by have := r.hk; have h4 : (k + 1) * s.c.seg ≤ s.c.segs * s.c.seg := Nat.mul_le_mul_right _ (by omega); rw [Nat.add_mul, Nat.one_mul] at h4; exact h4
  have hlo := r.lo
  have hhi := r.hi
  have hsl := h.ok.ok.h0
  have hz1 := h.ok.ok.h1
  have hge := secs_ge (z := s.c.z) (n := n) (by omega)
  obtain ⟨x, hx⟩ : ∃ x, secs s.c.z n = x := ⟨_, rfl⟩
  have hS : a + x ≤ s.d.S := by rw [h.ok.dS]; omega
  have HS := Lib.hid hS
  have hdz := Lib.hid h.ok.dz
  have ha : a + x ≤ 65536 := by omega
  rw [hx] at HSE hge
  have HX := Lib.hid hx
  have hw := h.ok.ok.h3
  have hx2 : x ≤ 4096 := by omega
  unfold Cfg.val at HRT HSE
  unfold addrV at HRT HSE ⊢
  clear h r hof hroom hkl hlo hhi hsl hx hS hw
  go_enter Try.func14, Try.ntmps14
  go_upto_region 1 with (fail)
  refine wp_forget (fun W => (W.cell? ⟨w.heap.size, 0, none⟩ = some (.int .i64 (a : Nat)) ∧ W.cell? ⟨w.heap.size, 1, none⟩ = some (.int .i64 (n : Nat))) ∧ Below w.heap.size w W ∧ w.heap.size < W.heap.size) ⟨?made, (Below.refl _ _).alloc (Nat.le_refl _) _, by simp⟩ ?_
  case made =>
    have b1 := heap_alloc_new w (.cells #[.int .i64 (a : Nat), .int .i64 (n : Nat)] 30)
    exact ⟨by rw [cell_of_row _ _ _ _ _ _ b1]; rfl, by rw [cell_of_row _ _ _ _ _ _ b1]; rfl⟩
  rintro W ⟨⟨t0, t1⟩, hbW, hl⟩
  have HBW := Lib.hid hbW
  have HSW := Lib.hid (H.out.up hbW)
  clear hbW
  obtain ⟨q0, q1, q2, q3, q4, q5, q6, q7, q8⟩ := HSW.out.bx
  have lP : P < W.heap.size := Nat.lt_trans l1 hl
  refine wp_region_up (by kernel_rfl) (by kernel_rfl) ?_
  repeat (go_big_quiet_step (first | (go_at_call 36; exact Calls.up_of (HRT.out _))))
  refine wpQuiet_nil ?_
  intro V hV
  obtain ⟨g, hg⟩ := hV
  have hb := g.h
  rw [← hg] at hb
  clear hg
  have HBV := Lib.hid (below_upto HBW.out hb (Nat.le_refl _))
  have HSV := Lib.hid (HSW.out.up hb)
  have lV : w.heap.size < V.heap.size := Nat.lt_of_lt_of_le hl hb.size
  have u0 := (hb.cell (p := ⟨w.heap.size, 0, none⟩) hl).trans t0
  have u1 := (hb.cell (p := ⟨w.heap.size, 1, none⟩) hl).trans t1
  clear q0 q1 q2 q3 q4 q5 q6 q7 q8 t0 t1 hb HBW HSW lP
  have c9 := HSV.out.c9
  have HDO : Hid (V.cell? ⟨D, 0, none⟩ = some (.bool false)) := by
    obtain ⟨Kb, Mb, pv, P', kv, Da, hi, _, _⟩ := HSV.out.dk
    rw [← HOF.out]
    exact hi.c0
  go_wp2_with fail
  refine (dkOff_any HDO.out).mono ?_
  rintro _ V ⟨rfl, rfl⟩
  go_upto_region 6 with (fail)
  obtain ⟨q0, q1, q2, q3, q4, q5, q6, q7, q8⟩ := HSV.out.bx
  have lP : P < V.heap.size := Nat.lt_trans l1 lV
  refine wp_region_up (by kernel_rfl) (by kernel_rfl) ?_
  repeat (go_big_quiet_step (first | (go_at_call 44; exact Calls.up_of (HSE.out _))))
  refine wpQuiet_nil ?_
  intro V2 hV
  obtain ⟨g, hg⟩ := hV
  have hb := g.h
  rw [← hg] at hb
  clear hg g
  go_wp2_with fail
  refine wp_forget (fun V => (V.cell? ⟨w.heap.size, 0, none⟩ = some (.int .i64 (a : Nat)) ∧ V.cell? ⟨w.heap.size, 1, none⟩ = some (.int .i64 (n : Nat))) ∧ Below w.heap.size w V ∧ w.heap.size < V.heap.size ∧ StAt B V P D T M O s)
    ⟨⟨(hb.cell (p := ⟨w.heap.size, 0, none⟩) lV).trans u0, (hb.cell (p := ⟨w.heap.size, 1, none⟩) lV).trans u1⟩, below_upto HBV.out hb (Nat.le_refl _), Nat.lt_of_lt_of_le lV hb.size, HSV.out.up hb⟩ ?_
  clear q0 q1 q2 q3 q4 q5 q6 q7 q8 lP lV u0 u1 hb HBV HSV HDO c9 HRT HSE V2 V hl
  rintro w5 ⟨⟨t0, t1⟩, hb5, hl5, hs5⟩
  have HB5 := Lib.hid hb5
  have HS5 := Lib.hid hs5
  have HO5 : Hid (∀ g, O g → g < w5.heap.size) := fun g hg => (hs5.lts.2.2.2 g hg).2
  have HL : Hid (GtLp B P D T M O s w5 a 0 (.slice none 0 0) w5) := ⟨none, 0, 0, rfl, by simp, OwB.empty _ _, hs5, Off.refl _ _⟩
  have HT : Hid (∀ wr, Off O w5 wr → wr.cell? ⟨w.heap.size, 0, none⟩ = some (.int .i64 (a : Nat)) ∧ wr.cell? ⟨w.heap.size, 1, none⟩ = some (.int .i64 (n : Nat))) := fun wr ho => by
    have hno : ¬ O w.heap.size := fun e => by have := (l4 _ e).2; omega
    exact ⟨(ho.cell (p := ⟨w.heap.size, 0, none⟩) hl5 hno).trans t0, (ho.cell (p := ⟨w.heap.size, 1, none⟩) hl5 hno).trans t1⟩
  clear hb5 hs5 t0 t1
  go_loopw [6, 37] (fun f i wr => ∃ j : Nat, j ≤ x ∧ i = .int .i64 (j : Nat) ∧ GtLp B P D T M O s w5 a j f wr) (fun _ i _ => x - (intOf i).toNat)
  case atStart => exact ⟨0, Nat.zero_le _, rfl, HL.out⟩
  case round =>
    obtain ⟨j, hj, rfl, A, nn, c, rfl, hnn, hf, hst, hoff⟩ := hrel
    clear HL
    have HNN := Lib.hid hnn
    have HF := Lib.hid hf
    have HST := Lib.hid hst
    have HOF2 := Lib.hid hoff
    obtain ⟨t0, t1⟩ := HT.out wr hoff
    have c9 := hst.c9
    have lw : w.heap.size < wr.heap.size := Nat.lt_of_lt_of_le hl5 hoff.size
    by_cases hlt : j < x
    · have i1 : IntKind.i64.wrap ((a : Int) + (j : Int)) = (a : Int) + (j : Int) := IntWalk.i64_in _ (by omega)
      clear hnn hf hst hoff
      go_upto_region 9 with (fail)
      have HRD : Hid (Calls Try.prog 23 #[.pointer (some ⟨D, 0, none⟩), .int .i64 ((a : Int) + (j : Int))] wr.drew (RdPost B wr.drew D s.d O ((a : Int) + (j : Int)))) := dkRead_any (HST.out.up (Below.refl _ _).drew).dk _
      have HAN : Hid (s.d.ans ((a : Int) + (j : Int)) = (s.d.read (a + j), 0)) := by
        unfold DkS.ans
        have := HS.out
        rw [HOF.out, if_neg (by simp), if_pos (by omega), show ((a : Int) + (j : Int)).toNat = a + j by omega]
        exact rfl
      go_region_law (first | (go_simp; go_at_call 23; refine HRD.out.mono ?_; rintro _ w1 ⟨A', n', c', rfl, ⟨w0', hF, hs0⟩, hD, hO⟩; rw [HAN.out]; have HF1 := Lib.hid hF; have HD1 := Lib.hid hD; have HO1 := Lib.hid hO; clear hF hD hO))
      all_goals
        have hn' : n' = s.d.z := by
          have h1 := HF1.out.len
          rw [HAN.out] at h1
          have := HS.out
          exact h1.symm.trans (HST.out.dk.read_len (by omega))
        have HN' := Lib.hid hn'
        have HOW : Hid (Off O w5 w1) := HOF2.out.drew.trans HO1.out
        have HFJ : Hid (OwB w5.heap.size w1 (.slice A nn c) (s.d.joinR a j)) := HF.out.drew.off HO1.out (fun k hk e => by have := HF.out.lt k hk; have := HO5.out k e; omega)
        have HST1 : Hid (StAt B w1 P D T M O s) := (HST.out.up (Below.refl _ _).drew).read HD1.out HO1.out
        have HSB : Hid (SBy w1 A' n' (s.d.read (a + j))) := by have h1 := HF1.out.sby; rw [HAN.out] at h1; exact h1
        have hsz : w5.heap.size ≤ w1.heap.size := HOW.out.size
        have hll : (s.d.joinR a j).length + n' ≤ 140737488355328 := by
          have h1 := HF.out.part.1
          have h2 : nn ≤ 65536 * 4096 := by rw [HNN.out, hdz.out]; exact Nat.mul_le_mul (by omega) (by omega)
          have h3 : n' ≤ 4096 := by rw [HN'.out, hdz.out]; omega
          omega
        have hl2 : (s.d.joinR a j).length + n' = nn + n' := by rw [HF.out.part.1]
        have HLL := Lib.hid hll
        have HL2 := Lib.hid hl2
        clear hn' hll hl2 t0 t1 c9 HRD i1
        go_wp2_with (at_builtin; go_must (refine wpList_app rfl (.tmp 55) (.tmp 56) rfl w5.heap.size (.slice A nn c) (s.d.joinR a j) (s.d.read (a + j)) rfl HFJ.out A' n' c' rfl HSB.out hsz HLL.out (nn + n') HL2.out ?_); intro A2 c2 w2 h2 hg2 _)
        have HG : Hid (GtLp B P D T M O s w5 a (j + 1) (.slice A2 (nn + n') c2) w2) := by
          have off2 := grown_off hg2
          have hlo : ∀ k, k < w5.heap.size → ¬ (Value.slice A nn c).ownBlock = some k := fun k hk e => by have := HFJ.out.lt k e; omega
          refine ⟨A2, nn + n', c2, rfl, ?_, h2, HST1.out.off off2 (hlo P (by omega)) (hlo T (by omega)) (hlo M (by omega)) (fun g hg => hlo g (HO5.out g hg)), HOW.out.late off2 (fun i hi e => absurd e (hlo i hi))⟩
          rw [HNN.out, HN'.out, Nat.add_mul, Nat.one_mul]
        clear h2 hg2
        go_wp2
        go_roundw
        case rel => exact ⟨j + 1, by omega, by go_num, HG.out⟩
        case measure => simp [intOf]; omega
    · obtain rfl : j = x := by omega
      clear hlt
      have hnl : n ≤ nn := by rw [HNN.out, hdz.out]; exact hge
      obtain ⟨gb, hgb, hcc, hsb⟩ : ∃ gb, A = some ⟨gb, 0, none⟩ ∧ nn ≤ c ∧ SBy wr (some ⟨gb, 0, none⟩) nn (s.d.joinR a j) := by
        obtain ⟨h1, h2, h3⟩ := hf.part
        obtain ⟨b', o', hb', _, _⟩ := h3.2 (by omega)
        obtain ⟨A', c', he, _, _, h5, h6⟩ := hf.form
        injection he with e1 e2 e3
        obtain ⟨k1, k2, k3⟩ := h6 b' o' (by rw [← e1]; exact hb')
        refine ⟨b', by rw [hb', k3], h2, ?_⟩
        rw [hb', k3] at h3
        exact h3
      subst hgb
      have HSB := Lib.hid hsb
      have hnx : n ≤ c := by omega
      have g1 : (n : Int) ≤ (c : Int) := by omega
      clear hnn hf hst hoff hsb
      obtain ⟨F, hF⟩ : ∃ F, F = (s.d.joinR a j).take n := ⟨_, rfl⟩
      have HSF : Hid (SBy wr (some ⟨gb, 0, none⟩) n F) := by
        have h1 := HSB.out.part 0 n (Nat.zero_le _) hnl
        rw [List.drop_zero, Nat.sub_zero, show (0 : Nat) + 0 = 0 from rfl] at h1
        rw [hF]
        exact h1
      have HG : Hid (s.d.getB a n = unFrame F n) := by
        unfold DkS.getB
        rw [hdz.out, HX.out, hF]
        exact rfl
      have HFl : Hid (F.length = n) := HSF.out.len
      have HRF := Lib.hid (readFrame_any wr (some ⟨gb, 0, none⟩) n n F HSF.out (Nat.le_refl _) (by omega))
      have HRS := Lib.hid HOF2.out.size
      obtain ⟨kd, pl, m, er, hrd⟩ : ∃ kd pl m er, rdFrame F = (kd, pl, m, er) := ⟨_, _, _, _, rfl⟩
      have HRD := Lib.hid hrd
      have hpl : pl.length ≤ 1048576 := by
        have h1 := rdFrame_fst F
        rw [hrd, HFl.out] at h1
        exact Nat.le_trans h1 hn.2
      clear hF hrd HSB
      go_wp2_with fail
      refine HRF.out.mono ?_
      rintro _ w1 ⟨A', c', rfl, hc', h1⟩
      rw [HRD.out] at h1 hc' ⊢
      simp only at h1 hc' ⊢
      have H1 := Lib.hid h1
      have HST1 : Hid (StAt B w1 P D T M O s ∧ Off O w w1) := ⟨HST.out.up h1.bel, ((Off.of_below HB5.out).late HOF2.out (fun i _ h => h)).step h1.bel⟩
      have t1' := (h1.bel.cell (p := ⟨w.heap.size, 1, none⟩) lw).trans t1
      obtain ⟨kn, hkn⟩ : ∃ kn, kn = kd.toNat := ⟨_, rfl⟩
      rw [← hkn]
      have HKN := Lib.hid hkn
      have hszw : w.heap.size ≤ w1.heap.size := Nat.le_of_lt (Nat.lt_of_lt_of_le lw h1.size)
      clear h1 hkn HRF t0 t1 c9
      by_cases he : er = 0
      · subst he
        by_cases hk : kn = 1
        · subst hk
          by_cases hm : m = n
          · subst hm
            have HU : Hid (Calls Try.prog 53 #[.slice A' pl.length c', .int .i64 1048576] w1 (UnPost w1 (unpackB 1048576 pl))) := unpack_any w1 A' pl.length c' pl 1048576 H1.out.sby hc' (by omega) (by omega) (fun g o e => (H1.out.own.form.elim fun A2 ⟨c2, he, _, _, _, h6⟩ => by injection he with e1 e2 e3; exact (h6 g o (by rw [← e1]; exact e)).2.1))
            have HR : Hid (unFrame F m = if (unpackB 1048576 pl).2 ≠ 0 then ([], 20) else ((unpackB 1048576 pl).1, 0)) := by
              have hk1 : kd = 1 := UInt8.toNat_inj.1 HKN.out.symm
              have h0 := HRD.out
              rw [hk1] at h0
              exact unFrame_ok h0
            go_wp2_with fail
            refine HU.out.mono ?_
            rintro _ w2 ⟨A2, c2, rfl, h2⟩
            clear HU HRD
            generalize unpackB 1048576 pl = ub at *
            obtain ⟨out, er2⟩ := ub
            simp only at h2 HR ⊢
            have H2 := Lib.hid h2
            have HST2 : Hid (StAt B w2 P D T M O s ∧ Off O w w2) := ⟨HST1.out.1.up h2.bel, HST1.out.2.step h2.bel⟩
            have hsz2 : w.heap.size ≤ w2.heap.size := Nat.le_trans hszw h2.size
            clear h2
            by_cases he2 : er2 = 0
            · subst he2
              have HR2 : Hid (s.d.getB a m = (out, 0)) := by rw [HG.out, HR.out, if_neg (by simp)]; exact rfl
              clear HR
              go_wp2
              go_ret2
              unfold GtPost
              rw [HR2.out]
              exact ⟨_, _, _, rfl, ⟨w1, H2.out, hszw⟩, HST2.out.1, HST2.out.2⟩
            · have HR2 : Hid (s.d.getB a m = ([], 20)) := by rw [HG.out, HR.out, if_pos he2]; exact rfl
              clear HR
              go_wp2
              go_ret2
              unfold GtPost
              rw [HR2.out]
              exact ⟨_, _, _, rfl, ⟨w2, FrB.empty _, hsz2⟩, HST2.out.1, HST2.out.2⟩
          · have HR2 : Hid (s.d.getB a n = ([], 20)) := HG.out.trans (unFrame_bad HRD.out (.inr (.inr hm)))
            go_wp2
            go_ret2
            unfold GtPost
            rw [HR2.out]
            exact ⟨_, _, _, rfl, ⟨w1, FrB.empty _, hszw⟩, HST1.out.1, HST1.out.2⟩
        · have HR2 : Hid (s.d.getB a n = ([], 20)) := HG.out.trans (unFrame_bad HRD.out (.inr (.inl fun e => hk (by rw [HKN.out, e]; rfl))))
          go_wp2
          go_ret2
          unfold GtPost
          rw [HR2.out]
          exact ⟨_, _, _, rfl, ⟨w1, FrB.empty _, hszw⟩, HST1.out.1, HST1.out.2⟩
      · have HR2 : Hid (s.d.getB a n = ([], 20)) := HG.out.trans (unFrame_bad HRD.out (.inl he))
        go_wp2
        go_ret2
        unfold GtPost
        rw [HR2.out]
        exact ⟨_, _, _, rfl, ⟨w1, FrB.empty _, hszw⟩, HST1.out.1, HST1.out.2⟩
end
end Go.Proofs.Ytlmgihnnphmmhaa
namespace Go.Proofs.Ytlmgihnnphmmhaa
open Go.RowKit
set_option linter.unusedVariables false
set_option linter.unusedSimpArgs false

def SpPost (B : Nat) (w : World) (P D T M : Nat) (O : Nat → Prop) (s : StS) (k : Nat) (e2 : Nat × Nat) (e : Ending) (w' : World) : Prop :=
  e = .returned (.tuple #[]) ∧ StAt B w' P D T M O { s with t := s.t.setE k e2 } ∧ Off (fun g => g = M) w w'
theorem StOk.spoil {s : StS} (h : StOk s) {k st us us' : Nat} (he : s.t.ent k = some (st, us)) (hu : us' ≤ us) : StOk { s with t := s.t.setE k (st, us') } := by
  have hent : ∀ j, (s.t.setE k (st, us')).ent j = if j = k then some (st, us') else s.t.ent j := fun j => rfl
  refine ⟨h.ok, h.dS, h.dz, h.tn, fun j hj => ?_, fun j v hj => ?_, h.usl, h.us0, fun j v hj hv => ?_⟩
  · obtain ⟨u, hu⟩ := h.opn j hj
    by_cases hjk : j = k
    · subst hjk
      rw [hu] at he
      cases he
      exact ⟨us', by show (s.t.setE j (1, us')).ent j = _; rw [TbS.setE]; simp⟩
    · exact ⟨u, by show (s.t.setE k (st, us')).ent j = _; rw [hent, if_neg hjk, hu]⟩
  · have hj' : (s.t.setE k (st, us')).ent j = some (1, v) := hj
    rw [hent] at hj'
    by_cases hjk : j = k
    · subst hjk
      rw [if_pos rfl] at hj'
      cases hj'
      exact h.one j us he
    · rw [if_neg hjk] at hj'
      exact h.one j v hj'
  · have hv' : (s.t.setE k (st, us')).ent j = some (1, v) := hv
    rw [hent] at hv'
    by_cases hjk : j = k
    · subst hjk
      rw [if_pos rfl] at hv'
      cases hv'
      exact Nat.le_trans hu (h.uk j us hj he)
    · rw [if_neg hjk] at hv'
      exact h.uk j v hj hv'
section
variable {B : Nat} {w w' : World} {P D T M : Nat} {O S : Nat → Prop} {s : StS}
set_option maxRecDepth 100000 in
set_option maxHeartbeats 4000000 in
theorem stSpoil_any (h : StAt B w P D T M O s) {a n k : Nat} (r : RightN s.c a n k) {st us : Nat} (he : s.t.ent k = some (st, us)) (hu : secs s.c.z n ≤ us) :
    Calls Try.prog 30 #[.pointer (some ⟨P, 0, none⟩), addrV a n] w (SpPost B w P D T M O s k (st, us - secs s.c.z n)) := by
  have H := Lib.hid h
  have hn := r.hn
  obtain ⟨l1, l2, l3, l4⟩ := h.lts
  have hroom := h.ok.ok.room
  have h0 := h.ok.ok.h0
  have h2 := h.ok.ok.h2
  have hkl : k * s.c.seg + s.c.seg ≤ s.c.segs * s.c.seg := by have := r.hk; have h4 : (k + 1) * s.c.seg ≤ s.c.segs * s.c.seg := Nat.mul_le_mul_right _ (by omega); rw [Nat.add_mul, Nat.one_mul] at h4; exact h4
  have ha : a ≤ 65536 := by have := r.hi; have := r.lo; omega
  have hkk : k < 65536 := by have := r.hk; omega
  have HRT : Hid (∀ w', Calls Try.prog 36 #[s.c.val, addrV a n] w' fun e w'' => e = .returned (.bool true) ∧ Below w'.heap.size w' w'') := fun w' => right_true w' h.ok.ok r
  have HOF : Hid (∀ w', Calls Try.prog 67 #[s.c.val, .int .i64 (a : Nat)] w' fun e w'' => e = .returned (.int .i64 (k : Nat)) ∧ Below w'.heap.size w' w'') := fun w' => by
    have := of_any w' h.ok.ok (a : Int) (by omega)
    rw [r.of h.ok.ok] at this
    exact this
  have HSE : Hid (∀ w', Calls Try.prog 44 #[s.c.val, addrV a n] w' fun e w'' => e = .returned (.int .i64 (secs s.c.z n : Nat)) ∧ Below w'.heap.size w' w'') := fun w' => sectors_any w' h.ok.ok a n (by omega) (by omega)
  have hus : s.t.us k = us := by unfold TbS.us; rw [he]; rfl
  have HUS : Hid (∀ g : Up w, Calls Try.prog 20 #[.pointer (some ⟨T, 0, none⟩), .int .i64 (k : Nat)] g.world fun e w' => e = .returned (.int .i64 (us : Nat)) ∧ Below g.world.heap.size g.world w') := fun g => (tbUsed_any (h.up g.h).tb (k := k) (by omega)).mono fun e w' ⟨h1, h2⟩ => by rw [hus] at h1; rw [h2]; exact ⟨h1, Below.refl _ _⟩
  have hub : us ≤ 1048576 := (h.tb.ok k _ he).2.2.2
  have HOK := Lib.hid (h.ok.spoil he (Nat.sub_le us (secs s.c.z n)))
  obtain ⟨x, hx⟩ : ∃ x, secs s.c.z n = x := ⟨_, rfl⟩
  rw [hx] at HSE hu HOK ⊢
  have HE := Lib.hid he
  unfold Cfg.val at HRT HOF HSE
  unfold addrV at HRT HSE ⊢
  clear h r hroom h0 h2 hkl he hus hx
  go_enter Try.func30, Try.ntmps30
  go_upto_region 1 with (fail)
  refine wp_forget (fun W => (W.cell? ⟨w.heap.size, 0, none⟩ = some (.int .i64 (a : Nat)) ∧ W.cell? ⟨w.heap.size, 1, none⟩ = some (.int .i64 (n : Nat))) ∧ Below w.heap.size w W ∧ w.heap.size < W.heap.size) ⟨?made, (Below.refl _ _).alloc (Nat.le_refl _) _, by simp⟩ ?_
  case made =>
    have b1 := heap_alloc_new w (.cells #[.int .i64 (a : Nat), .int .i64 (n : Nat)] 30)
    exact ⟨by rw [cell_of_row _ _ _ _ _ _ b1]; rfl, by rw [cell_of_row _ _ _ _ _ _ b1]; rfl⟩
  rintro W ⟨⟨t0, t1⟩, hbW, hl⟩
  have HBW := Lib.hid hbW
  have HSW := Lib.hid (H.out.up hbW)
  clear hbW
  obtain ⟨q0, q1, q2, q3, q4, q5, q6, q7, q8⟩ := HSW.out.bx
  have c10 := HSW.out.c10
  have lP : P < W.heap.size := Nat.lt_trans l1 hl
  have k0 : (0 : Int) ≤ (k : Int) := by omega
  refine wp_region_up (by kernel_rfl) (by kernel_rfl) ?_
  repeat (go_big_quiet_step (first | (go_at_call 67; exact Calls.up_of (HOF.out _))))
  refine wpQuiet_nil ?_
  intro V hV
  obtain ⟨g, rfl⟩ := hV
  go_upto_region 2 with (fail)
  refine wp_region_upW (by kernel_rfl) (by kernel_rfl) ?_
  repeat (go_big_quiet_step (first | (go_at_call 36; exact Calls.up_of (HRT.out _))))
  refine wpQuiet_nil ?_
  rintro _ ⟨g, rfl⟩
  go_upto_region 3 with (fail)
  refine wp_region_upW_tail 19 (by kernel_rfl) (by kernel_rfl) (by kernel_rfl) ?_
  simp only [List.take_succ_cons, List.take_zero, List.drop_succ_cons, List.drop_zero]
  have HUS' : Hid (∀ g : Up W, Calls Try.prog 20 #[.pointer (some ⟨T, 0, none⟩), .int .i64 (k : Nat)] g.world fun e w' => e = .returned (.int .i64 (us : Nat)) ∧ Below g.world.heap.size g.world w') := fun g => HUS.out ⟨g.world, below_upto HBW.out g.h (Nat.le_refl _)⟩
  have hmin : min (x : Int) (us : Int) = (x : Int) := by omega
  have hng : IntKind.i64.wrap (-(x : Int)) = -(x : Int) := IntWalk.i64_in _ (by omega)
  repeat (go_big_quiet_step (first | (go_at_call 44; exact Calls.up_of (HSE.out _)) | (go_at_call 20; exact Calls.up_of (HUS'.out _))))
  refine wpQuiet_nil ?_
  rintro _ ⟨g, rfl⟩
  have HSG : Hid (StAt B g.world P D T M O s) := HSW.out.up g.h
  have HBG : Hid (Below w.heap.size w g.world) := below_upto HBW.out g.h (Nat.le_refl _)
  have HAD : Hid (Calls Try.prog 50 #[.pointer (some ⟨T, 0, none⟩), .int .i64 (k : Nat), .int .i64 (-(x : Int))] g.world (AdPost B g.world T M s.t k (st, us - x))) := tbAdd_any HSG.out.tb HE.out (by omega) (by omega)
  clear q0 q1 q2 q3 q4 q5 q6 q7 q8 c10 t0 t1 HRT HOF HSE HUS HUS' hmin hng k0
  go_wp2_with fail
  refine HAD.out.mono ?_
  rintro _ w2 ⟨rfl, h1, h2⟩
  have HF : Hid (StAt B w2 P D T M O { s with t := s.t.setE k (st, us - x) }) := ⟨HSG.out.toStM.tab h2 h1, HOK.out⟩
  have HO : Hid (Off (fun g => g = M) w w2) := (Off.of_below HBG.out).trans h2
  clear h1 h2
  go_wp2
  go_end0
  exact ⟨rfl, HF.out, HO.out⟩
end
end Go.Proofs.Ytlmgihnnphmmhaa
namespace Go.Proofs.Ytlmgihnnphmmhaa
open Go.RowKit
set_option linter.unusedVariables false
set_option linter.unusedSimpArgs false

theorem addr_made (w : World) (s n : Int) : (w.alloc (.cells #[.int .i64 s, .int .i64 n] 30)).cell? ⟨w.heap.size, 0, none⟩ = some (.int .i64 s) ∧ (w.alloc (.cells #[.int .i64 s, .int .i64 n] 30)).cell? ⟨w.heap.size, 1, none⟩ = some (.int .i64 n) := by
  have b1 := heap_alloc_new w (.cells #[.int .i64 s, .int .i64 n] 30)
  exact ⟨by rw [cell_of_row _ _ _ _ _ _ b1]; rfl, by rw [cell_of_row _ _ _ _ _ _ b1]; rfl⟩
/-- A shape and an address, boxed one behind the other. -/
theorem two_made (w : World) (c : Cfg) (s n : Int) : BoxC ((w.alloc (.cells c.cells 23)).alloc (.cells #[.int .i64 s, .int .i64 n] 30)) w.heap.size c ∧
    ((w.alloc (.cells c.cells 23)).alloc (.cells #[.int .i64 s, .int .i64 n] 30)).cell? ⟨w.heap.size + 1, 0, none⟩ = some (.int .i64 s) ∧ ((w.alloc (.cells c.cells 23)).alloc (.cells #[.int .i64 s, .int .i64 n] 30)).cell? ⟨w.heap.size + 1, 1, none⟩ = some (.int .i64 n) := by
  have h1 := BoxC.made w c
  have h2 := addr_made (w.alloc (.cells c.cells 23)) s n
  have hs : (w.alloc (.cells c.cells 23)).heap.size = w.heap.size + 1 := by simp
  rw [hs] at h2
  have hb : Below (w.alloc (.cells c.cells 23)).heap.size (w.alloc (.cells c.cells 23)) ((w.alloc (.cells c.cells 23)).alloc (.cells #[.int .i64 s, .int .i64 n] 30)) := (Below.refl _ _).alloc (Nat.le_refl _) _
  exact ⟨h1.up fun j => hb.cell (p := ⟨w.heap.size, j, none⟩) (by rw [hs]; exact Nat.lt_succ_self _), h2⟩
theorem two_below (w : World) (o o' : Obj) : Below w.heap.size w ((w.alloc o).alloc o') := ((Below.refl _ _).alloc (Nat.le_refl _) o).alloc (by simp) o'
theorem Cfg.of_in {c : Cfg} (h : c.Ok) {k m : Nat} (h1 : 2 + c.journal + k * c.seg ≤ m) (h2 : m < 2 + c.journal + k * c.seg + c.seg) (hk : k < c.segs) : c.of (m : Int) = (k : Int) := by
  obtain ⟨y, hy⟩ : ∃ y : Nat, m = 2 + c.journal + y := ⟨m - 2 - c.journal, by omega⟩
  have h3 := h.h3
  have hd : y / c.seg = k := by
    rw [Nat.div_eq_iff (by omega)]
    constructor <;> (try rw [Nat.mul_comm]) <;> (try rw [Nat.mul_comm]) <;> omega
  rw [hy, show ((2 + c.journal + y : Nat) : Int) = 2 + (c.journal : Int) + (y : Int) by omega, Cfg.of_nat, hd, if_neg (by omega)]
set_option maxRecDepth 100000 in
set_option maxHeartbeats 1000000 in
theorem sectors9_any (w : World) {c : Cfg} (h : c.Ok) (s : Int) (n : Nat) (hn2 : n ≤ 4194304) : Calls Try.prog 15 #[c.val, addrV s n] w fun e w' => e = .returned (.int .i64 (secs c.z n : Nat)) ∧ Below w.heap.size w w' := by
  have h1 := h.h1
  obtain ⟨⟨q0, q1, q2, q3, q4, q5, q6, q7, q8⟩, t0, t1⟩ := two_made w c s n
  have HB := Lib.hid (two_below w (.cells c.cells 23) (.cells #[.int .i64 s, .int .i64 n] 30))
  obtain ⟨x, hx⟩ : ∃ x, x = n + c.z - 1 := ⟨_, rfl⟩
  have HX : Hid (secs c.z n = x / c.z) := by show (n + c.z - 1) / c.z = _; rw [hx]
  have w1 : IntKind.i64.wrap ((n : Int) + (c.z : Int)) = (n : Int) + (c.z : Int) := IntWalk.i64_in _ (by omega)
  have e1 : (n : Int) + (c.z : Int) - 1 = (x : Int) := by omega
  have w2 : IntKind.i64.wrap (x : Int) = (x : Int) := IntWalk.i64_in _ (by omega)
  have hd : x / c.z ≤ 8388608 := Nat.le_trans (Nat.div_le_self _ _) (by omega)
  have z0 : ¬ (c.z : Int) = 0 := by omega
  have z1 : ¬ c.z = 0 := by omega
  rw [HX.out]
  clear h hx HX q0 q2 q3 q4 q5 q6 q7 q8
  unfold Cfg.cells at *
  unfold Cfg.val addrV
  go_enter Try.func15, Try.ntmps15
  go_wp2
  go_ret
  refine ⟨ret_int ?_, HB.out⟩
  have e2 : (x : Int) / (c.z : Int) = ((x / c.z : Nat) : Int) := by simp
  rw [e2]
  obtain ⟨q, hq⟩ : ∃ q, x / c.z = q := ⟨_, rfl⟩
  rw [hq] at hd ⊢
  exact IntWalk.wrap64_in (q : Int) (by omega)
theorem loadVar_row {ty : TypeId} {cs : List Value} {w : World} {g : Nat} (hagg : (isAgg ty).run Try.prog w = .ok true w) (hsz : (sizeOf ty).run Try.prog w = .ok cs.length w) (h : ∀ (j : Nat) v, cs[j]? = some v → w.cell? ⟨g, j, none⟩ = some v) : (loadVar ty ⟨g, 0, none⟩).run Try.prog w = .ok (.agg cs.toArray) w := by
  have hl : (loadCells ⟨g, 0, none⟩ cs.length).run Try.prog w = .ok cs.toArray w :=
    run_loadCells_list (P := Try.prog) w ⟨g, 0, none⟩ cs (fun j v hv => by
      have hadd : (⟨g, 0, none⟩ : Addr).add j = ⟨g, j, none⟩ := by unfold Addr.add; split <;> simp_all
      rw [hadd]
      exact h j v hv)
  simp only [loadVar, Sem.run_bind, Result.andThen_ok, hagg, if_true, hsz, hl, Sem.run_pure]
theorem results_one_cell {fn : Func} {p : Tmp} {ty : TypeId} (h : fn.results = #[.cell p ty]) (tmps : Array Value) (w : World) (g : Nat) (v : Value) (hp : tmps.getD p undef = .pointer (some ⟨g, 0, none⟩)) (hl : (loadVar ty ⟨g, 0, none⟩).run Try.prog w = .ok v w) :
    (results fn tmps).run Try.prog w = .ok v w := by
  have hp' : tmps[p]?.getD undef = .pointer (some ⟨g, 0, none⟩) := by simpa using hp
  simp [results, h, hp', asAddr, hl]
def shape9 : Cfg := ⟨60, 128, 4, 3, 32, 4, 2, 2, 4⟩
theorem shape9_ok : shape9.Ok := by
  refine ⟨?_, ?_, ?_, ?_, ?_, ?_, ?_, ?_, ?_, ?_, ?_⟩ <;> simp [shape9, Cfg.segs, blobN]
set_option maxRecDepth 100000 in
set_option maxHeartbeats 1000000 in
theorem shape9_any (w : World) : Calls Try.prog 40 #[] w fun e w' => e = .returned shape9.val ∧ Below w.heap.size w w' := by
  go_enter Try.func40, Try.ntmps40
  go_wp2
  have b1 := heap_alloc_new w (.cells #[.int .i64 60, .int .i64 128, .int .i64 4, .int .i64 3, .int .i64 32, .int .i64 4, .int .i64 2, .int .i64 2, .int .i64 4] 23)
  refine bodyPost_ret (v := shape9.val) (results_one_cell rfl _ _ w.heap.size _ rfl (loadVar_row (cs := [.int .i64 60, .int .i64 128, .int .i64 4, .int .i64 3, .int .i64 32, .int .i64 4, .int .i64 2, .int .i64 2, .int .i64 4]) (by kernel_rfl) (by kernel_rfl) fun j v hv => ?_)) rfl ⟨rfl, (Below.refl _ _).alloc (Nat.le_refl _) _⟩
  rw [cell_of_row _ _ _ _ _ _ b1]
  simpa using hv
set_option maxRecDepth 100000 in
set_option maxHeartbeats 1000000 in
theorem fits_true (w : World) {c : Cfg} (h : c.Ok) (h1 : c.sectors ≤ 3000) (h2 : c.z ≤ 512) : Calls Try.prog 11 #[c.val] w fun e w' => e = .returned (.bool true) ∧ Below w.heap.size w w' := by
  have hbx := BoxC.made w c
  have HB : Hid (Below w.heap.size w (w.alloc (.cells c.cells 23))) := (Below.refl _ _).alloc (Nat.le_refl _) _
  have HC : Hid (∀ w', Calls Try.prog 41 #[c.val] w' fun e w'' => e = .returned (.int .i64 0) ∧ Below w'.heap.size w' w'') := fun w' => (rcheck_any w' c.sectors c.z c.journal c.seg c.page c.frames c.procs c.regions c.pages).mono fun e w'' ⟨r, he, hb, _, hi⟩ => by
    rw [hi.2 ⟨c, h, rfl⟩] at he
    exact ⟨he, hb⟩
  clear h
  unfold Cfg.val at *
  unfold Cfg.cells at *
  go_enter Try.func11, Try.ntmps11
  go_upto_region 1 with (fail)
  refine wp_forget (fun W => BoxC W w.heap.size c ∧ Below w.heap.size w W ∧ w.heap.size < W.heap.size) ⟨hbx, HB.out, by simp⟩ ?_
  clear hbx HB
  rintro W ⟨⟨q0, q1, q2, q3, q4, q5, q6, q7, q8⟩, hbW, hl⟩
  have HBW := Lib.hid hbW
  clear hbW
  have i1 : (c.sectors : Int) ≤ 3000 := by omega
  have i2 : (c.z : Int) ≤ 512 := by omega
  refine wp_upW (W := W) fun g0 => ?_
  go_wp2_with fail
  refine calls_upW (HC.out _) fun g => ?_
  have HBG : Hid (Below w.heap.size w g.world) := below_upto HBW.out g.h (Nat.le_refl _)
  go_wp2
  go_ret
  exact ⟨rfl, HBG.out⟩
set_option maxRecDepth 100000 in
set_option maxHeartbeats 1000000 in
theorem fits_false (w : World) (a0 a1 a2 a3 a4 a5 a6 a7 a8 : Int) (h : ¬ ∃ c : Cfg, c.Ok ∧ c.sectors ≤ 3000 ∧ c.z ≤ 512 ∧ cfgI a0 a1 a2 a3 a4 a5 a6 a7 a8 = c.val) : Calls Try.prog 11 #[cfgI a0 a1 a2 a3 a4 a5 a6 a7 a8] w fun e w' => e = .returned (.bool false) ∧ Below w.heap.size w w' := by
  have HC : Hid (∀ w', Calls Try.prog 41 #[cfgI a0 a1 a2 a3 a4 a5 a6 a7 a8] w' fun e w'' => ∃ r : Nat, e = .returned (.int .i64 (r : Nat)) ∧ Below w'.heap.size w' w'' ∧ (r = 0 → ¬ (a0 ≤ 3000 ∧ a1 ≤ 512))) := fun w' => (rcheck_any w' a0 a1 a2 a3 a4 a5 a6 a7 a8).mono fun e w'' ⟨r, he, hb, _, hi⟩ => ⟨r, he, hb, fun hr ⟨h1, h2⟩ => by
    obtain ⟨c, hc, hv⟩ := hi.1 hr
    refine h ⟨c, hc, ?_, ?_, hv⟩
    · unfold cfgI Cfg.val at hv
      injection hv with hv
      have := congrArg (fun a : Array Value => a[0]?) hv
      simp at this
      omega
    · unfold cfgI Cfg.val at hv
      injection hv with hv
      have := congrArg (fun a : Array Value => a[1]?) hv
      simp at this
      omega⟩
  have HB : Hid (Below w.heap.size w (w.alloc (.cells #[.int .i64 a0, .int .i64 a1, .int .i64 a2, .int .i64 a3, .int .i64 a4, .int .i64 a5, .int .i64 a6, .int .i64 a7, .int .i64 a8] 23))) := (Below.refl _ _).alloc (Nat.le_refl _) _
  have b1 := heap_alloc_new w (.cells #[.int .i64 a0, .int .i64 a1, .int .i64 a2, .int .i64 a3, .int .i64 a4, .int .i64 a5, .int .i64 a6, .int .i64 a7, .int .i64 a8] 23)
  have hbx : ∀ (j : Nat) (v : Value), #[Value.int .i64 a0, .int .i64 a1, .int .i64 a2, .int .i64 a3, .int .i64 a4, .int .i64 a5, .int .i64 a6, .int .i64 a7, .int .i64 a8][j]? = some v → (w.alloc (.cells #[.int .i64 a0, .int .i64 a1, .int .i64 a2, .int .i64 a3, .int .i64 a4, .int .i64 a5, .int .i64 a6, .int .i64 a7, .int .i64 a8] 23)).cell? ⟨w.heap.size, j, none⟩ = some v := fun j v hv => by rw [cell_of_row _ _ _ _ _ _ b1]; exact hv
  have hcc : ∀ W : World, (∀ (j : Nat) (v : Value), #[Value.int .i64 a0, .int .i64 a1, .int .i64 a2, .int .i64 a3, .int .i64 a4, .int .i64 a5, .int .i64 a6, .int .i64 a7, .int .i64 a8][j]? = some v → W.cell? ⟨w.heap.size, j, none⟩ = some v) → W.cell? ⟨w.heap.size, 0, none⟩ = some (.int .i64 a0) ∧ W.cell? ⟨w.heap.size, 1, none⟩ = some (.int .i64 a1) ∧ W.cell? ⟨w.heap.size, 2, none⟩ = some (.int .i64 a2) ∧ W.cell? ⟨w.heap.size, 3, none⟩ = some (.int .i64 a3) ∧ W.cell? ⟨w.heap.size, 4, none⟩ = some (.int .i64 a4) ∧ W.cell? ⟨w.heap.size, 5, none⟩ = some (.int .i64 a5) ∧ W.cell? ⟨w.heap.size, 6, none⟩ = some (.int .i64 a6) ∧ W.cell? ⟨w.heap.size, 7, none⟩ = some (.int .i64 a7) ∧ W.cell? ⟨w.heap.size, 8, none⟩ = some (.int .i64 a8) :=
    fun W hW => ⟨hW 0 _ rfl, hW 1 _ rfl, hW 2 _ rfl, hW 3 _ rfl, hW 4 _ rfl, hW 5 _ rfl, hW 6 _ rfl, hW 7 _ rfl, hW 8 _ rfl⟩
  have HBX := Lib.hid (hcc _ hbx)
  clear b1 hbx hcc h
  unfold cfgI at *
  go_enter Try.func11, Try.ntmps11
  go_upto_region 1 with (fail)
  refine wp_forget (fun W => (W.cell? ⟨w.heap.size, 0, none⟩ = some (.int .i64 a0) ∧ W.cell? ⟨w.heap.size, 1, none⟩ = some (.int .i64 a1) ∧ W.cell? ⟨w.heap.size, 2, none⟩ = some (.int .i64 a2) ∧ W.cell? ⟨w.heap.size, 3, none⟩ = some (.int .i64 a3) ∧ W.cell? ⟨w.heap.size, 4, none⟩ = some (.int .i64 a4) ∧ W.cell? ⟨w.heap.size, 5, none⟩ = some (.int .i64 a5) ∧ W.cell? ⟨w.heap.size, 6, none⟩ = some (.int .i64 a6) ∧ W.cell? ⟨w.heap.size, 7, none⟩ = some (.int .i64 a7) ∧ W.cell? ⟨w.heap.size, 8, none⟩ = some (.int .i64 a8)) ∧ Below w.heap.size w W ∧ w.heap.size < W.heap.size) ⟨HBX.out, HB.out, by simp⟩ ?_
  clear HBX HB
  rintro W ⟨⟨q0, q1, q2, q3, q4, q5, q6, q7, q8⟩, hbW, hl⟩
  have HBW := Lib.hid hbW
  clear hbW
  go_wp2_with fail
  refine (HC.out _).mono ?_
  rintro _ w1 ⟨r, rfl, hb, hr⟩
  have HB1 : Hid (Below w.heap.size w w1) := below_upto HBW.out hb (Nat.le_refl _)
  have p0 := (hb.cell (p := ⟨w.heap.size, 0, none⟩) hl).trans q0
  have p1 := (hb.cell (p := ⟨w.heap.size, 1, none⟩) hl).trans q1
  clear hb q0 q1 q2 q3 q4 q5 q6 q7 q8 HC HBW
  by_cases h0 : r = 0
  · subst h0
    have hr' := hr rfl
    clear hr
    by_cases i1 : a0 ≤ 3000
    · have i2 : decide (a1 ≤ 512) = false := decide_eq_false fun e => hr' ⟨i1, e⟩
      clear hr'
      go_wp2
      go_ret
      exact ⟨rfl, HB1.out⟩
    · clear hr'
      go_wp2
      go_ret
      exact ⟨rfl, HB1.out⟩
  · clear hr
    go_wp2
    go_ret
    exact ⟨rfl, HB1.out⟩
set_option maxRecDepth 100000 in
set_option maxHeartbeats 2000000 in
theorem right9_true (w : World) {c : Cfg} (h : c.Ok) (hs : c.sectors ≤ 3000) (hz : c.z ≤ 512) {s n k : Nat} (r : RightN c s n k) : Calls Try.prog 37 #[c.val, addrV s n] w fun e w' => e = .returned (.bool true) ∧ Below w.heap.size w w' := by
  have hn := r.hn
  have hp := secs_pos (z := c.z) (n := n) (by have := h.h1; omega) (by omega)
  have hlo := r.lo
  have hhi := r.hi
  have HF : Hid (∀ w', Calls Try.prog 11 #[c.val] w' fun e w'' => e = .returned (.bool true) ∧ Below w'.heap.size w' w'') := fun w' => fits_true w' h hs hz
  have hroom := h.room
  have h3 := h.h3
  have h2 := h.h2
  have hkl : k * c.seg + c.seg ≤ c.segs * c.seg := by have := r.hk; have h4 : (k + 1) * c.seg ≤ c.segs * c.seg := Nat.mul_le_mul_right _ (by omega); rw [Nat.add_mul, Nat.one_mul] at h4; exact h4
  have HO : Hid (∀ w', Calls Try.prog 29 #[c.val, .int .i64 (s : Nat)] w' fun e w'' => e = .returned (.int .i64 (k : Nat)) ∧ Below w'.heap.size w' w'') := fun w' => by
    have := rOf_any w' h (s : Int) (by omega)
    rwa [r.of h] at this
  have HSE : Hid (∀ w', Calls Try.prog 15 #[c.val, addrV s n] w' fun e w'' => e = .returned (.int .i64 (secs c.z n : Nat)) ∧ Below w'.heap.size w' w'') := fun w' => sectors9_any w' h s n (by omega)
  obtain ⟨x, hx⟩ : ∃ x, secs c.z n = x := ⟨_, rfl⟩
  rw [hx] at HSE hp hhi
  have HO2 : Hid (∀ w', Calls Try.prog 29 #[c.val, .int .i64 ((s : Int) + (x : Int) - 1)] w' fun e w'' => e = .returned (.int .i64 (k : Nat)) ∧ Below w'.heap.size w' w'') := fun w' => by
    have h0 := Cfg.of_in h (k := k) (m := s + x - 1) (by omega) (by omega) r.hk
    have e : (s : Int) + (x : Int) - 1 = ((s + x - 1 : Nat) : Int) := by omega
    rw [e]
    have := rOf_any w' h ((s + x - 1 : Nat) : Int) (by omega)
    rwa [h0] at this
  have hsx : s + x ≤ 65536 := by omega
  have v1 : IntKind.i64.wrap ((s : Int) + (x : Int)) = (s : Int) + (x : Int) := IntWalk.i64_in _ (by omega)
  have v2 : IntKind.i64.wrap ((s : Int) + (x : Int) - 1) = (s : Int) + (x : Int) - 1 := IntWalk.i64_in _ (by omega)
  have i1 : ¬ (n : Int) < 13 := by omega
  have i2 : ¬ (n : Int) > 1048576 := by omega
  have i1' : ¬ n < 13 := by omega
  have i2' : ¬ 1048576 < n := by omega
  have i3 : (0 : Int) ≤ (k : Int) := by omega
  have HM := Lib.hid (two_made w c s n)
  have HB := Lib.hid (two_below w (.cells c.cells 23) (.cells #[.int .i64 (s : Nat), .int .i64 (n : Nat)] 30))
  clear h r hx hroom h3 h2 hkl hlo hhi hs hz
  unfold Cfg.cells at HM HB
  unfold Cfg.val addrV at *
  go_enter Try.func37, Try.ntmps37
  go_upto_region 1 with (fail)
  refine wp_forget (fun W => (BoxC W w.heap.size c ∧ W.cell? ⟨w.heap.size + 1, 0, none⟩ = some (.int .i64 (s : Nat)) ∧ W.cell? ⟨w.heap.size + 1, 1, none⟩ = some (.int .i64 (n : Nat))) ∧ Below w.heap.size w W ∧ w.heap.size + 1 < W.heap.size) ⟨HM.out, HB.out, by simp⟩ ?_
  clear HM HB
  rintro W ⟨⟨⟨q0, q1, q2, q3, q4, q5, q6, q7, q8⟩, t0, t1⟩, hbW, hl⟩
  have HBW := Lib.hid hbW
  have hl' : w.heap.size < W.heap.size := by omega
  clear hbW
  refine wp_upW (W := W) fun g => ?_
  go_wp2_with fail
  refine calls_upW (HF.out _) fun g => ?_
  go_wp2_with fail
  refine calls_upW (HO.out _) fun g => ?_
  go_upto_region 4 with (fail)
  refine wp_region_upW (by kernel_rfl) (by kernel_rfl) ?_
  repeat (go_big_quiet_step (first | (go_at_call 15; exact Calls.up_of (HSE.out _)) | (go_at_call 29; exact Calls.up_of (HO2.out _))))
  refine wpQuiet_nil ?_
  rintro _ ⟨g, rfl⟩
  have HBG : Hid (Below w.heap.size w g.world) := below_upto HBW.out g.h (Nat.le_refl _)
  go_wp2
  go_ret
  exact ⟨rfl, HBG.out⟩
end Go.Proofs.Ytlmgihnnphmmhaa
namespace Go.Proofs.Ytlmgihnnphmmhaa
open Go.RowKit
set_option linter.unusedVariables false
set_option linter.unusedSimpArgs false

/-- A blob that came in. -/
structure BArg where
  A : Option Addr
  n : Nat
  c : Nat
  L : Bytes
def BArg.v (b : BArg) : Value := .slice b.A b.n b.c
def BArg.In (w : World) (b : BArg) : Prop := SBy w b.A b.n b.L ∧ b.n ≤ b.c
theorem BArg.In.up {w w' : World} {b : BArg} (h : b.In w) (hb : Below w.heap.size w w') : b.In w' := ⟨h.1.up hb, h.2⟩
/-- A list of n blobs at A. -/
def SLs (w : World) (A : Option Addr) (n : Nat) (b : Nat → BArg) : Prop := 0 < n → ∃ g o, A = some ⟨g, o, none⟩ ∧ g < w.heap.size ∧ ∀ k, k < n → w.cell? ⟨g, o + k, none⟩ = some (b k).v ∧ (b k).In w
theorem SLs.up {w w' : World} {A : Option Addr} {n : Nat} {b : Nat → BArg} (h : SLs w A n b) (hb : Below w.heap.size w w') : SLs w' A n b := fun hp => by
  obtain ⟨g, o, rfl, hg, hc⟩ := h hp
  exact ⟨g, o, rfl, Nat.lt_of_lt_of_le hg hb.size, fun k hk => ⟨(hb.cell (p := ⟨g, o + k, none⟩) hg).trans (hc k hk).1, (hc k hk).2.up hb⟩⟩
def lenSum (b : Nat → BArg) : Nat → Nat
  | 0 => 0
  | k + 1 => lenSum b k + (b k).n
theorem lenSum_mono (b : Nat → BArg) {i j : Nat} (h : i ≤ j) : lenSum b i ≤ lenSum b j := by
  induction h with
  | refl => exact Nat.le_refl _
  | step _ ih => exact Nat.le_trans ih (Nat.le_add_right _ _)
theorem le_lenSum (b : Nat → BArg) {i n : Nat} (h : i < n) : (b i).n ≤ lenSum b n := Nat.le_trans (Nat.le_add_left _ _) (lenSum_mono b (show i + 1 ≤ n from h))
def fewB (b : Nat → BArg) (n : Nat) : Bool := decide (n ≤ 80 ∧ lenSum b n ≤ 32768)
set_option maxRecDepth 100000 in
set_option maxHeartbeats 1000000 in
theorem few_any (w : World) {A : Option Addr} {n c : Nat} {b : Nat → BArg} (h : SLs w A n b) (hn : n ≤ 1048576) (hs : lenSum b n ≤ 1099511627776) : Calls Try.prog 16 #[.slice A n c] w fun e w' => e = .returned (.bool (fewB b n)) ∧ w' = w := by
  have H := Lib.hid h
  clear h
  have HM := Lib.hid (fun i j (h : i ≤ j) => lenSum_mono b h)
  go_enter Try.func16, Try.ntmps16
  go_wp2
  go_loop [3, 4] (fun t i => ∃ k : Nat, k ≤ n ∧ i = .int .i64 (k : Nat) ∧ t = .int .i64 (lenSum b k : Nat)) (fun _ i => n - (intOf i).toNat)
  case atStart => exact ⟨0, Nat.zero_le _, rfl, rfl⟩
  case round =>
    obtain ⟨k, hk, rfl, rfl⟩ := hrel
    by_cases hlt : k < n
    · obtain ⟨g, o, rfl, hg, hc⟩ := H.out (by omega)
      have hck := (hc k hlt).1
      obtain ⟨bA, bn, bc, hb⟩ : ∃ bA bn bc, (b k).v = .slice bA bn bc := ⟨_, _, _, rfl⟩
      have hbn : (b k).n = bn := by unfold BArg.v at hb; injection hb
      have hsum := HM.out (k + 1) n hlt
      have HS : Hid (lenSum b (k + 1) = lenSum b k + bn) := by show lenSum b k + (b k).n = _; rw [hbn]
      rw [HS.out] at hsum
      rw [hb] at hck
      obtain ⟨t, ht⟩ : ∃ t, lenSum b k = t := ⟨_, rfl⟩
      rw [ht] at HS hsum ⊢
      clear hc hb hbn ht
      have i1 : (k : Int) < (n : Int) := by omega
      have v1 : IntKind.i64.wrap ((t : Int) + (bn : Int)) = (t : Int) + (bn : Int) := IntWalk.i64_in _ (by omega)
      go_wp2
      go_round
      case rel => exact ⟨k + 1, by omega, by go_num, by rw [HS.out]; go_num⟩
      case measure => simp [intOf]; omega
    · obtain rfl : k = n := by omega
      have hge : ¬ (k : Int) < (k : Int) := by omega
      obtain ⟨t, ht⟩ : ∃ t, lenSum b k = t := ⟨_, rfl⟩
      have HF : Hid (fewB b k = (decide (k ≤ 80) && decide (t ≤ 32768))) := by show fewB b k = _; unfold fewB; rw [ht, Bool.decide_and]
      rw [ht] at hs ⊢
      clear ht
      by_cases h1 : k ≤ 80
      · have j1 : (k : Int) ≤ 80 := by omega
        by_cases h2 : t ≤ 32768
        · have j2 : (t : Int) ≤ 32768 := by omega
          go_wp2
          go_ret
          exact ⟨by rw [HF.out]; simp [h1, h2], rfl⟩
        · have j2 : ¬ (t : Int) ≤ 32768 := by omega
          go_wp2
          go_ret
          exact ⟨by rw [HF.out]; simp [h1, h2], rfl⟩
      · have j1 : ¬ (k : Int) ≤ 80 := by omega
        go_wp2
        go_ret
        exact ⟨by rw [HF.out]; simp [h1], rfl⟩
end Go.Proofs.Ytlmgihnnphmmhaa
