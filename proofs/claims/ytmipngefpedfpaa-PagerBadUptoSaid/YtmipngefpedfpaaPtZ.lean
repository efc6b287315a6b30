/- A pager: Evict. -/
import Derived.Test.YtmipngefpedfpaaPsZ
namespace Go.Proofs.Ytmipngefpedfpaa
open Go.RowKit Go.Maps
set_option linter.unusedVariables false
set_option linter.unusedSimpArgs false

def EvPost {σ : Type} {K : SnkF σ} (M : Snk K) (P : PSnk K) (w : World) (d : PD) (t : PSt σ) (n : Int) (e : Ending) (w' : World) : Prop :=
  ∃ (t' : PSt σ) (k : Nat), e = .returned (.int .i64 (k : Nat)) ∧ Stp M P w w' d t t' ∧ Ev P d.z (d.n + 1) none9 t t' ∧ Num t t' ∧ cntF qUsed t'.F d.n + k = cntF qUsed t.F d.n ∧ ((k : Int) ≤ n ∨ k = 0)
/-- Of a loop that puts pages out: k are out. -/
structure EvAt {σ : Type} {K : SnkF σ} (M : Snk K) (P : PSnk K) (w : World) (d : PD) (t : PSt σ) (n : Int) (k : Nat) (wr : World) (t1 : PSt σ) : Prop where
  s : Stp M P w wr d t t1
  e : Ev P d.z k none9 t t1
  nu : Num t t1
  c : cntF qUsed t1.F d.n + k = cntF qUsed t.F d.n
  l : (k : Int) ≤ n ∨ k = 0
section
variable {σ : Type} {K : SnkF σ} {M : Snk K} {P : PSnk K} {w w' w1 w2 w3 w4 w5 : World} {d : PD} {t t' t1 t2 : PSt σ} {id : Int} {x y : Pg} {j : Nat} {z k1 k2 : Nat} {E : Int → Prop}
theorem vic_any (hi : PI P d t) (hh : t.h < d.n) : (sw d.n (2 * d.n + 1) t.h t.F).1 = -1 ∨ ∃ r i : _, r < d.n ∧ t.g i = some r ∧ (sw d.n (2 * d.n + 1) t.h t.F).1 = (r : Nat) := by
  rcases vic_cases hi.kv hh with ⟨h1, h2⟩ | ⟨r, h1, h2, h3⟩
  · exact .inl h2
  · obtain ⟨g1, g2⟩ := sw_form d.n (by omega) (2 * d.n + 1) t.h t.F hh
    rcases g2 with g2 | ⟨r', g2, g3, g4, g5⟩
    · exact .inl g2
    · rw [h3] at g2 g4
      simp at g2
      have hr : r = r' := by omega
      subst hr
      have hur : (t.F r).used = true := by
        rw [← (g1 r).2.1, h3]
        simp [Fr.cand] at g4
        exact g4.1
      exact .inr ⟨r, _, h2, hi.kv.good.a r h2 hur, by rw [h3]⟩
theorem vic_pos (hi : PI P d t) {r : Nat} {i : Int} (h : t.g i = some r) : 1 ≤ cntF qUsed t.F d.n := by
  obtain ⟨h1, h2, _⟩ := pi_key hi h
  have e := cntF_put (q := qUsed) (F := t.F) (f := Fr.zero) h1
  have e3 : qUsed (t.F r) = true := h2
  have e4 : qUsed Fr.zero = false := rfl
  rw [e3, e4] at e
  have e5 : true.toNat = 1 := rfl
  have e6 : false.toNat = 0 := rfl
  rw [e5, e6] at e
  omega
set_option maxRecDepth 100000 in
set_option maxHeartbeats 4000000 in
theorem evict_any (hK : K.Good) (hmi : P.Miss) (h : PgrAt M w d t) (hi : PI P d t) (h0 : t.hole = none) (hnx : t.nx < 9223372036854775807) (hrd : K.Rdy t.s (d.n + 1)) (n : Int) :
    Calls Try.prog 13 #[.pointer (some ⟨d.Q, 0, none⟩), .int .i64 n] w (EvPost M P w d t n) := by
  have hcl := cntF_le qUsed t.F d.n
  have hn := h.pool.most
  have HA : Hid (EvAt M P w d t n 0 w t) := Lib.hid ⟨Stp.refl h hi, Ev.refl hK t, Num.refl t, rfl, .inr rfl⟩
  have H0 := Lib.hid h0
  have HRD := Lib.hid hrd
  clear h hi h0 hrd
  go_enter Try.func13, Try.ntmps13
  go_wp2
  go_loopw [5] (fun v wr => ∃ (k : Nat) (t1 : PSt σ), v = .int .i64 (k : Nat) ∧ EvAt M P w d t n k wr t1) (fun v _ => d.n + 1 - (intOf v).toNat)
  case atStart => exact ⟨0, t, rfl, HA.out⟩
  case round =>
    obtain ⟨k, t1, rfl, hat⟩ := hrel
    have HAT := Lib.hid hat
    have hkc := hat.c
    have hkn : k ≤ d.n := by omega
    have q0 := hat.s.at_.q0
    have hnx1 : t1.nx < 9223372036854775807 := by rw [hat.nu.nx]; exact hnx
    have HFIN : Hid (EvPost M P w d t n (.returned (.int .i64 (k : Nat))) wr) := Lib.hid ⟨t1, k, rfl, hat.s, hat.e.more hK (by omega), hat.nu, hat.c, hat.l⟩
    have hv := vic_any hat.s.inv hat.s.at_.pool.hand
    have HV := Lib.hid (Victim_any hat.s.at_.pool hat.s.inv.kv)
    have HCC := Lib.hid hkc
    clear hat hkc HA
    by_cases hlt : (k : Int) < n
    · rcases hv with hv | ⟨r, i, hr, hgi, hv⟩
      · have HV2 : Hid (Calls Try.prog 33 #[.pointer (some ⟨d.Pb, 0, none⟩)] wr fun e w' => e = .returned (.tuple #[.int .i64 0, .bool false]) ∧ Below wr.heap.size wr w') := Lib.hid (HV.out.mono fun e w' h => ⟨by rw [h.1, hv]; rfl, h.2⟩)
        have HF2 : Hid (∀ W, Below wr.heap.size wr W → EvPost M P w d t n (.returned (.int .i64 (k : Nat))) W) := Lib.hid fun W hb => by
          obtain ⟨t', k', h1, h2, h3⟩ := HFIN.out
          exact ⟨t', k', h1, h2.up hb, h3⟩
        clear hv HV HFIN
        go_wp2_with fail
        refine HV2.out.mono ?_
        rintro e w2 ⟨rfl, hb⟩
        have HB := Lib.hid hb
        clear hb HV2
        go_wp2
        go_ret
        exact HF2.out _ HB.out
      · obtain ⟨x, hx, _⟩ := HAT.out.s.inv.res i r hgi
        obtain ⟨y1, y2, _⟩ := HAT.out.s.inv.ids i x hx
        have HV2 : Hid (Calls Try.prog 33 #[.pointer (some ⟨d.Pb, 0, none⟩)] wr fun e w' => e = .returned (.tuple #[.int .i64 (r : Nat), .bool true]) ∧ Below wr.heap.size wr w') := Lib.hid (HV.out.mono fun e w' h => ⟨by rw [h.1, hv]; unfold vicV; simp, h.2⟩)
        have HGI := Lib.hid hgi
        clear hv HV hgi hx
        go_wp2_with fail
        refine HV2.out.mono ?_
        rintro e w2 ⟨rfl, hb⟩
        have HS := Lib.hid (HAT.out.s.up hb)
        have q0' := HS.out.at_.q0
        have HO := Lib.hid (out_any hK hmi HS.out.at_ HS.out.inv HGI.out (by rw [HAT.out.nu.hole, H0.out]; simp) (by omega) (HAT.out.e.rdy 1 (hK.mono _ _ _ HRD.out (by have := HCC.out; have := vic_pos HAT.out.s.inv HGI.out; omega))))
        clear hb HV2 q0 y1 y2
        go_wp2_with fail
        refine HO.out.mono ?_
        rintro e w3 ⟨t2, er, rfl, u1, u2, u3, ⟨rfl, u4, u5, u6⟩ | ⟨rfl, u4, u5, u6, u7⟩⟩
        · have HN : Hid (EvAt M P w d t n (k + 1) w3 t2) := Lib.hid ⟨HS.out.trans u1, HAT.out.e.trans u2, HAT.out.nu.trans u3, by have := HCC.out; omega, .inl (by omega)⟩
          have hk1 : k + 1 ≤ d.n := by have := HCC.out; omega
          clear u1 u2 u3 u4 u5 u6 HO HS q0'
          go_wp2
          go_roundw
          case rel => exact ⟨k + 1, t2, by go_num, HN.out⟩
          case measure => simp [intOf]; omega
        · have he0 := P.ez0
          have HN : Hid (EvPost M P w d t n (.returned (.int .i64 (k : Nat))) w3) := Lib.hid ⟨t2, k, rfl, HS.out.trans u1, (HAT.out.e.trans u2).more hK (by omega), HAT.out.nu.trans u3, by rw [u7]; exact HCC.out, HAT.out.l⟩
          clear u1 u2 u3 u4 u5 u6 u7 HO HS q0'
          go_wp2
          go_ret
          exact HN.out
    · clear hv HV
      go_wp2
      go_ret
      exact HFIN.out
end
end Go.Proofs.Ytmipngefpedfpaa
