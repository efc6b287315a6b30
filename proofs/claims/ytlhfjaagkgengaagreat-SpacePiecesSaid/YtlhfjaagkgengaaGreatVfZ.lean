/- A space: Unmap, Close. -/
import Derived.Test.YtlhfjaagkgengaaGreatVeZ
namespace Go.Proofs.YtlhfjaagkgengaaGreat
open Go.RowKit Go.Maps
set_option linter.unusedVariables false
set_option linter.unusedSimpArgs false
section
variable {σ : Type} {K : SnkF σ} {M : Snk K} {P : PSnk K} {w w' w1 w2 w3 wr : World} {d : PD} {t t' t1 t2 t3 : PSt σ} {C C' C1 : Cu} {k k1 k2 : Nat} {D : SpD} {A : Option Addr} {cap n : Nat} {L : List Rg} {m m1 : Int → Option Int}
def inU (a j : Int) (i : Int) : Prop := a ≤ i ∧ i < a + j
/-- Unmap's answer. -/
def UmPost (M : Snk K) (P : PSnk K) (w : World) (d : PD) (t : PSt σ) (C : Cu) (k : Nat) (D : SpD) (A : Option Addr) (cap : Nat) (L : List Rg) (m : Int → Option Int) (n : Nat) (R : List Rg × Int) (a j : Int) (e : Ending) (w' : World) : Prop :=
  ∃ t', e = .returned (.int .i64 R.2) ∧ Nxs P (fun k => k = D.Mm ∨ k = D.X) w w' d t t' ∧ t'.nx = t.nx ∧
    ((R.2 = 0 ∧ ∃ A' cap' n', SS M P w' d t' (loC C m (inU a j)) k D A' cap' R.1 (loM m (inU a j)) n' ∧ ∀ k, rgO A' R.1.length k → w.heap.size ≤ k) ∨
     (R.2 ≠ 0 ∧ SS M P w' d t' C k D A cap L m n))
set_option maxRecDepth 100000 in
set_option maxHeartbeats 4000000 in
theorem unmap_b (h : SS M P w d t C k D A cap L m n) (a j : Int) (hinj : ∀ i j id, m i = some id → m j = some id → i = j) (hkr : ∀ i id, m i = some id → 0 ≤ i ∧ i ≤ 300000000) (hu : ∀ i id b u, m i = some id → C id = some (b, u) → 0 ≤ u ∧ u ≤ 1000000) :
    Calls Tryz.prog 117 #[.pointer (some ⟨D.X, 0, none⟩), .int .i64 a, .int .i64 j] w (UmPost M P w d t C k D A cap L m n (unmappedF D L a j) a j) := by
  have HT := Lib.hid (turn_b h.sp (ent_fn Tryz.func156 (by kernel_rfl) rfl) (unmapped_b h.sp h.ok h.len a j 0))
  have H := Lib.hid h
  have lX := h.sp.ltX
  have HINJ := Lib.hid hinj
  have HKR := Lib.hid hkr
  have HU := Lib.hid hu
  obtain ⟨R, hR⟩ : ∃ R, unmappedF D L a j = R := ⟨_, rfl⟩
  have HRL : Hid (R.2 = 0 → R.1.length ≤ 10000) := Lib.hid (by rw [← hR]; exact unmappedF_len h.ok)
  have HPA : Hid (R.2 = 0 → 0 ≤ a ∧ 1 ≤ j ∧ a + j ≤ 65536) := Lib.hid fun h0 => by
    rw [← hR] at h0
    unfold unmappedF at h0
    split at h0
    · cases h0
    · rename_i hp
      have h8 := h.ok.b8
      have : pagesB D a j = true := by cases hb : pagesB D a j with
        | true => rfl
        | false => exact absurd hb hp
      have := of_decide_eq_true this
      omega
  rw [hR] at HT ⊢
  clear h hinj hkr hu hR
  obtain ⟨M1, er⟩ := R
  go_enter Tryz.func117, Tryz.ntmps117
  go_wp2_with fail
  refine HT.out.mono ?_
  intro e w1 htu
  have hrs := H.out.turn htu HRL.out
  obtain ⟨rfl, ho1, hc⟩ := hrs
  have HO1 := Lib.hid ho1
  clear htu ho1 HT
  rcases hc with ⟨h0, A', cap', hs, hg⟩ | ⟨h0, hs⟩
  · simp only at h0 hs hg
    subst h0
    have HS := Lib.hid hs
    have HG := Lib.hid hg
    have HP := Lib.hid (HPA.out rfl)
    have c11 := hs.sp.c11
    have lX1 := hs.sp.ltX
    clear hs hg HPA
    obtain ⟨w2, hrg, hit, hb2⟩ := MapIs.range HS.out.sp.mp Tryz.underlying112
    have hMr : D.Mm < w1.heap.size := HS.out.sp.mp.lt
    have HIT := Lib.hid hit
    have HB2 := Lib.hid hb2
    obtain ⟨Br, hBr⟩ : ∃ g, w1.heap.size = g := ⟨_, rfl⟩
    rw [hBr] at hrg HIT hMr
    have HBR := Lib.hid hBr
    clear hit hb2 hBr
    go_upto_region 5 with (fail)
    clear hrg c11 lX1 lX
    go_loopw [8, 9] (fun _ _ wr => ∃ (left : Value → Prop) (c' : Nat) (t' : PSt σ) (n' : Nat), LoI M P w1 wr d t t' (loC C m (fun i => inU a j i ∧ ¬ left (.int .i64 i))) k D A' cap' M1 (loM m (fun i => inU a j i ∧ ¬ left (.int .i64 i))) n' ∧
      ItIs Tryz.prog 3 wr D.Mm Br (spF (loM m (fun i => inU a j i ∧ ¬ left (.int .i64 i)))) left c' ∧ ¬ Own d t' Br) (fun _ _ wr => wr.rangeLeft D.Mm Br)
    case atStart =>
      have e0 : (fun i => inU a j i ∧ ¬ True) = fun _ => False := by funext i; simp
      refine ⟨fun _ => True, n, t, n, ?_, ?_, fun e => by have := HS.out.pv.lt e; have := HBR.out; omega⟩
      · rw [e0, loC_none, loM_none]
        have h2 := HS.out.up HB2.out
        exact ⟨h2.sp, h2.pv, h2.sep, Nxs.refl.up HB2.out, rfl⟩
      · rw [e0, loM_none]
        exact HIT.out
    case round =>
      obtain ⟨left, c', t4, n4, hlo, hit, hno⟩ := hrel
      have HL := Lib.hid hlo
      have HIT4 := Lib.hid hit
      have HNO := Lib.hid hno
      have hnx := hit.next (by omega)
      clear hlo hit hno HIT HB2
      rcases hnx with ⟨h0, hno, hrun⟩ | ⟨key, val, w5, hf, hlf, hpos, ⟨kl, hkl⟩, hrun, ho, hs5, hit5, hent⟩
      · have HN := Lib.hid hno
        clear hno h0
        go_wp2
        go_ret
        have hcg : ∀ i id, m i = some id → ((inU a j i ∧ ¬ left (.int .i64 i)) ↔ inU a j i) := fun i id hm => by
          refine ⟨fun h => h.1, fun h => ⟨h, fun hl => ?_⟩⟩
          have e : loM m (fun i => inU a j i ∧ ¬ left (.int .i64 i)) i = some id := by
            unfold loM
            rw [if_neg (fun h => h.2 hl)]
            exact hm
          exact HN.out (.int .i64 i) (.int .i64 id) (by rw [spF_at, e]; rfl) hl
        have hl := HL.out
        rw [loC_congr hcg, loM_congr hcg] at hl
        refine ⟨t4, rfl, ⟨(HO1.out.mono fun k e => .inr (.inr e)).late hl.nx.off (fun i hi e => e.imp id .inl), fun q hq => (hl.nx.own q hq).imp id (fun e => Nat.le_trans HO1.out.size e), hl.nx.rm⟩, hl.e1, .inl ⟨rfl, A', cap', n4, ⟨hl.sp, hl.pv, HS.out.ok, HS.out.q, HS.out.z, hl.sep, fun i id hi => ?_, HS.out.len⟩, HG.out⟩⟩
        unfold loM at hi
        split at hi
        · cases hi
        · rename_i hd
          rw [lo_at HINJ.out hi hd]
          exact HS.out.has i id hi
      · obtain ⟨q, id, rfl, hmq, rfl⟩ := spF_inv hf
        have hmd : m q = some id ∧ ¬ (inU a j q ∧ ¬ left (.int .i64 q)) := by
          unfold loM at hmq
          split at hmq
          · cases hmq
          · rename_i hd; exact ⟨hmq, hd⟩
        have hkr := HKR.out q id hmd.1
        have HMD := Lib.hid hmd
        have hlo5 := HL.out.off ho (fun b e => by rw [e]; exact HNO.out) (fun b e hb => by
          have := HS.out.sp.lt hb
          have := HBR.out
          have : b = Br := e
          omega) (fun b e => by rw [e]; exact Nat.le_of_eq HBR.out)
        have HL5 := Lib.hid hlo5
        have s9 := hlo5.sp.c9
        rw [HS.out.q] at s9
        have lX5 := hlo5.sp.ltX
        have HIT5 := Lib.hid hit5
        have hwr : IntKind.i64.wrap (q - a) = q - a := by have := HP.out; exact IntWalk.i64_in _ (by omega)
        have HK := Lib.hid hkl
        have HLF := Lib.hid hlf
        clear hf hmq hmd hlf hkl ho hit5 hlo5 hs5
        by_cases hin : a ≤ q ∧ q - a < j
        · have hdn : ∀ i, (inU a j i ∧ ¬ (left (.int .i64 i) ∧ Value.int .i64 i ≠ .int .i64 q)) ↔ (inU a j i ∧ ¬ left (.int .i64 i)) ∨ i = q := by
            intro i
            constructor
            · rintro ⟨h1, h2⟩
              by_cases h3 : left (.int .i64 i)
              · right
                by_cases h4 : (Value.int .i64 i) = .int .i64 q
                · injection h4
                · exact absurd ⟨h3, h4⟩ h2
              · exact .inl ⟨h1, h3⟩
            · rintro (⟨h1, h2⟩ | rfl)
              · exact ⟨h1, fun h => h2 h.1⟩
              · exact ⟨⟨hin.1, by omega⟩, fun h => h.2 rfl⟩
          have HDN := Lib.hid hdn
          have HLT := Lib.hid (lo_let HS.out.q HL5.out HINJ.out HS.out.has HMD.out.1 HMD.out.2 hdn (fun b u => HU.out q id b u HMD.out.1))
          have i1 := hin.1
          have i2 := hin.2
          clear hdn hin
          go_upto_region 9 with (go_at_call 65; go_loud (refine HLT.out.mono ?_; rintro e6 w6 ⟨rfl, t6, hx6, hl6⟩; have HX6 := Lib.hid hx6; have HL6 := Lib.hid hl6; have s11 := hl6.sp.c11; have lX6 := hl6.sp.ltX; clear hx6 hl6))
          obtain ⟨w7, hr7, hm7, hit7, ho7⟩ := ItIs.del (HIT5.out.off HX6.out.off (HL5.out.sep _ (.inr (.inl rfl))) HNO.out) HL6.out.sp.mp intKeyed Tryz.underlying112 HK.out (fun h => h.2 rfl) (by omega) 0
          obtain ⟨w8, hr8, hs8, ho8⟩ := HL6.out.sp.delM (i := q) (by omega) 0
          rw [hr7] at hr8
          injection hr8 with _ hw78
          subst hw78
          have e9 := (lo_step (C := C) HINJ.out HMD.out.1 HDN.out).2
          rw [← e9] at hs8
          rw [spF_del, ← e9] at hit7
          have HS8 := Lib.hid hs8
          have HIT7 := Lib.hid hit7
          have HO7 := Lib.hid ho7
          clear hs8 ho8 hm7 hit7 ho7 e9 s9 lX5 HLT
          go_wp2_with (at_delete; go_must (refine wpList_delete0 rfl rfl (.tmp 48) (.tmp 49) 112 3 rfl _ _ rfl rfl hr7 ?_))
          go_roundw
          case rel =>
            have hl6 := HL6.out
            have hMm : D.Mm < w1.heap.size := HS.out.sp.mp.lt
            refine ⟨fun x => left x ∧ x ≠ .int .i64 q, c' - 1, t6, _, ⟨HS8.out, hl6.pv.offL HO7.out (fun b e => by rw [e]; exact hl6.sep _ (.inr (.inl rfl))), hl6.sep, hl6.nx.offS HO7.out (fun b e => .inl e), hl6.e1⟩, HIT7.out, (HX6.out.keep HIT5.out.lt.2 HNO.out).2⟩
          case measure => rw [HIT7.out.left_eq, HIT4.out.left_eq]; omega
        · have hcg : (fun i => inU a j i ∧ ¬ (left (.int .i64 i) ∧ Value.int .i64 i ≠ .int .i64 q)) = fun i => inU a j i ∧ ¬ left (.int .i64 i) := by
            funext i
            refine propext ⟨fun h => ⟨h.1, fun hl => h.2 ⟨hl, fun e => ?_⟩⟩, fun h => ⟨h.1, fun hl => h.2 hl.1⟩⟩
            injection e with _ e
            subst e
            exact hin ⟨h.1.1, by have := h.1.2; omega⟩
          have HCG := Lib.hid hcg
          clear hcg
          by_cases h1 : a ≤ q
          · have h2 : ¬ q - a < j := fun h => hin ⟨h1, h⟩
            have hd2 : decide (q - a < j) = false := decide_eq_false h2
            clear hin
            go_wp2
            go_roundw
            case rel => exact ⟨fun x => left x ∧ x ≠ .int .i64 q, c' - 1, t4, n4, by rw [HCG.out]; exact HL5.out, by rw [HCG.out]; exact HIT5.out, HNO.out⟩
            case measure => rw [HIT5.out.left_eq, HIT4.out.left_eq]; omega
          · have hd1 : decide (a ≤ q) = false := decide_eq_false h1
            clear hin
            go_wp2
            go_roundw
            case rel => exact ⟨fun x => left x ∧ x ≠ .int .i64 q, c' - 1, t4, n4, by rw [HCG.out]; exact HL5.out, by rw [HCG.out]; exact HIT5.out, HNO.out⟩
            case measure => rw [HIT5.out.left_eq, HIT4.out.left_eq]; omega
  · have hb : (er != 0) = true := by simp at h0; simp [h0]
    have HS := Lib.hid hs
    have HE := Lib.hid h0
    simp only at HE
    clear hs h0
    go_wp2
    go_ret
    exact ⟨t, rfl, ⟨HO1.out.mono fun k e => .inr (.inr e), fun _ => .inl, id⟩, rfl, .inr ⟨HE.out, HS.out⟩⟩
end
end Go.Proofs.YtlhfjaagkgengaaGreat
