/- A pager: Evict. A pager: New. A pager: Keep, Let, Shared, Has. -/
import Derived.Test.YtlhfjaagkgengaaGreatMPd
namespace Go.Proofs.YtlhfjaagkgengaaGreat
open Go.RowKit Go.Maps
set_option linter.unusedVariables false
set_option linter.unusedSimpArgs false

def EvPost {σ : Type} {K : SnkF σ} (M : Snk K) (P : PSnk K) (w : World) (d : PD) (t : PSt σ) (n : Int) (e : Ending) (w' : World) : Prop :=
  ∃ (t' : PSt σ) (k : Nat), e = .returned (.int .i64 (k : Nat)) ∧ Stp M P w w' d t t' ∧ Ev P d.z (d.n + 1) none9 t t' ∧ Num t t' ∧ cntF qUsed t'.F d.n + k = cntF qUsed t.F d.n ∧ ((k : Int) ≤ n ∨ k = 0)
/-- Of a loop that puts pages out: k are out. -/
structure EvAt {σ : Type} {K : SnkF σ} (M : Snk K) (P : PSnk K) (w : World) (d : PD) (t : PSt σ) (n : Int) (k : Nat) (wr : World) (t1 : PSt σ) : Prop where
  s : Stp M P w wr d t t1
  e : Ev P d.z k none9 t t1
  nu : Num t t1
  c : cntF qUsed t1.F d.n + k = cntF qUsed t.F d.n
  l : (k : Int) ≤ n ∨ k = 0
section
variable {σ : Type} {K : SnkF σ} {M : Snk K} {P : PSnk K} {w w' w1 w2 w3 w4 w5 : World} {d : PD} {t t' t1 t2 : PSt σ} {id : Int} {x y : Pg} {j : Nat} {z k1 k2 : Nat} {E : Int → Prop}
theorem vic_any (hi : PI P d t) (hh : t.h < d.n) : (sw d.n (2 * d.n + 1) t.h t.F).1 = -1 ∨ ∃ r i : _, r < d.n ∧ t.g i = some r ∧ (sw d.n (2 * d.n + 1) t.h t.F).1 = (r : Nat) := by
  rcases vic_cases hi.kv hh with ⟨h1, h2⟩ | ⟨r, h1, h2, h3⟩
  · exact .inl h2
  · obtain ⟨g1, g2⟩ := sw_form d.n (by omega) (2 * d.n + 1) t.h t.F hh
    rcases g2 with g2 | ⟨r', g2, g3, g4, g5⟩
    · exact .inl g2
    · rw [h3] at g2 g4
      simp at g2
      have hr : r = r' := by omega
      subst hr
      have hur : (t.F r).used = true := by
        rw [← (g1 r).2.1, h3]
        simp [Fr.cand] at g4
        exact g4.1
      exact .inr ⟨r, _, h2, hi.kv.good.a r h2 hur, by rw [h3]⟩
theorem vic_pos (hi : PI P d t) {r : Nat} {i : Int} (h : t.g i = some r) : 1 ≤ cntF qUsed t.F d.n := by
  obtain ⟨h1, h2, _⟩ := pi_key hi h
  have e := cntF_put (q := qUsed) (F := t.F) (f := Fr.zero) h1
  have e3 : qUsed (t.F r) = true := h2
  have e4 : qUsed Fr.zero = false := rfl
  rw [e3, e4] at e
  have e5 : true.toNat = 1 := rfl
  have e6 : false.toNat = 0 := rfl
  rw [e5, e6] at e
  omega
set_option maxRecDepth 100000 in
set_option maxHeartbeats 4000000 in
theorem evict_any (hK : K.Good) (hmi : P.Miss) (h : PgrAt M w d t) (hi : PI P d t) (h0 : t.hole = none) (hnx : t.nx < 9223372036854775807) (hrd : K.Rdy t.s (d.n + 1)) (n : Int) :
    Calls Tryz.prog 47 #[.pointer (some ⟨d.Q, 0, none⟩), .int .i64 n] w (EvPost M P w d t n) := by
  have hcl := cntF_le qUsed t.F d.n
  have hn := h.pool.most
  have HA : Hid (EvAt M P w d t n 0 w t) := Lib.hid ⟨Stp.refl h hi, Ev.refl hK t, Num.refl t, rfl, .inr rfl⟩
  have H0 := Lib.hid h0
  have HRD := Lib.hid hrd
  clear h hi h0 hrd
  go_enter Tryz.func47, Tryz.ntmps47
  go_wp2
  go_loopw [5] (fun v wr => ∃ (k : Nat) (t1 : PSt σ), v = .int .i64 (k : Nat) ∧ EvAt M P w d t n k wr t1) (fun v _ => d.n + 1 - (intOf v).toNat)
  case atStart => exact ⟨0, t, rfl, HA.out⟩
  case round =>
    obtain ⟨k, t1, rfl, hat⟩ := hrel
    have HAT := Lib.hid hat
    have hkc := hat.c
    have hkn : k ≤ d.n := by omega
    have q0 := hat.s.at_.q0
    have hnx1 : t1.nx < 9223372036854775807 := by rw [hat.nu.nx]; exact hnx
    have HFIN : Hid (EvPost M P w d t n (.returned (.int .i64 (k : Nat))) wr) := Lib.hid ⟨t1, k, rfl, hat.s, hat.e.more hK (by omega), hat.nu, hat.c, hat.l⟩
    have hv := vic_any hat.s.inv hat.s.at_.pool.hand
    have HV := Lib.hid (Victim_any hat.s.at_.pool hat.s.inv.kv)
    have HCC := Lib.hid hkc
    clear hat hkc HA
    by_cases hlt : (k : Int) < n
    · rcases hv with hv | ⟨r, i, hr, hgi, hv⟩
      · have HV2 : Hid (Calls Tryz.prog 90 #[.pointer (some ⟨d.Pb, 0, none⟩)] wr fun e w' => e = .returned (.tuple #[.int .i64 0, .bool false]) ∧ Below wr.heap.size wr w') := Lib.hid (HV.out.mono fun e w' h => ⟨by rw [h.1, hv]; rfl, h.2⟩)
        have HF2 : Hid (∀ W, Below wr.heap.size wr W → EvPost M P w d t n (.returned (.int .i64 (k : Nat))) W) := Lib.hid fun W hb => by
          obtain ⟨t', k', h1, h2, h3⟩ := HFIN.out
          exact ⟨t', k', h1, h2.up hb, h3⟩
        clear hv HV HFIN
        go_wp2_with fail
        refine HV2.out.mono ?_
        rintro e w2 ⟨rfl, hb⟩
        have HB := Lib.hid hb
        clear hb HV2
        go_wp2
        go_ret
        exact HF2.out _ HB.out
      · obtain ⟨x, hx, _⟩ := HAT.out.s.inv.res i r hgi
        obtain ⟨y1, y2, _⟩ := HAT.out.s.inv.ids i x hx
        have HV2 : Hid (Calls Tryz.prog 90 #[.pointer (some ⟨d.Pb, 0, none⟩)] wr fun e w' => e = .returned (.tuple #[.int .i64 (r : Nat), .bool true]) ∧ Below wr.heap.size wr w') := Lib.hid (HV.out.mono fun e w' h => ⟨by rw [h.1, hv]; unfold vicV; simp, h.2⟩)
        have HGI := Lib.hid hgi
        clear hv HV hgi hx
        go_wp2_with fail
        refine HV2.out.mono ?_
        rintro e w2 ⟨rfl, hb⟩
        have HS := Lib.hid (HAT.out.s.up hb)
        have q0' := HS.out.at_.q0
        have HO := Lib.hid (out_any hK hmi HS.out.at_ HS.out.inv HGI.out (by rw [HAT.out.nu.hole, H0.out]; simp) (by omega) (HAT.out.e.rdy 1 (hK.mono _ _ _ HRD.out (by have := HCC.out; have := vic_pos HAT.out.s.inv HGI.out; omega))))
        clear hb HV2 q0 y1 y2
        go_wp2_with fail
        refine HO.out.mono ?_
        rintro e w3 ⟨t2, er, rfl, u1, u2, u3, ⟨rfl, u4, u5, u6⟩ | ⟨rfl, u4, u5, u6, u7⟩⟩
        · have HN : Hid (EvAt M P w d t n (k + 1) w3 t2) := Lib.hid ⟨HS.out.trans u1, HAT.out.e.trans u2, HAT.out.nu.trans u3, by have := HCC.out; omega, .inl (by omega)⟩
          have hk1 : k + 1 ≤ d.n := by have := HCC.out; omega
          clear u1 u2 u3 u4 u5 u6 HO HS q0'
          go_wp2
          go_roundw
          case rel => exact ⟨k + 1, t2, by go_num, HN.out⟩
          case measure => simp [intOf]; omega
        · have he0 := P.ez0
          have HN : Hid (EvPost M P w d t n (.returned (.int .i64 (k : Nat))) w3) := Lib.hid ⟨t2, k, rfl, HS.out.trans u1, (HAT.out.e.trans u2).more hK (by omega), HAT.out.nu.trans u3, by rw [u7]; exact HCC.out, HAT.out.l⟩
          clear u1 u2 u3 u4 u5 u6 u7 HO HS q0'
          go_wp2
          go_ret
          exact HN.out
    · clear hv HV
      go_wp2
      go_ret
      exact HFIN.out
end
end Go.Proofs.YtlhfjaagkgengaaGreat
namespace Go.Proofs.YtlhfjaagkgengaaGreat
open Go.RowKit Go.Maps
set_option linter.unusedVariables false
set_option linter.unusedSimpArgs false

set_option maxHeartbeats 400000 in
theorem New_bad (w : World) (n : Int) (hn : n < 1 ∨ 4096 < n) : Calls Tryz.prog 97 #[.int .i64 n] w fun e w' => e = .returned (.tuple #[.pointer none, .int .i64 1]) ∧ w = w' := by
  rcases hn with h | h
  · go_enter Tryz.func97, Tryz.ntmps97
    go_wp2
    go_ret2
    exact ⟨rfl, rfl⟩
  · have h' : ¬ n < 1 := by omega
    go_enter Tryz.func97, Tryz.ntmps97
    go_wp2
    go_ret2
    exact ⟨rfl, rfl⟩
/-- A pager that was made just now. -/
structure Pg0 {σ : Type} {K : SnkF σ} (M : Snk K) (P : PSnk K) (w w' : World) (z n : Nat) (O : Nat → Prop) (s : σ) (d : PD) (t : PSt σ) : Prop where
  at_ : PgrAt M w' d t
  inv : PI P d t
  bel : Below w.heap.size w w'
  own : ∀ k, ownP d t.pm k → w.heap.size ≤ k
  z : d.z = z
  n : d.n = n
  pm : t.pm = fun _ => none
  nx : t.nx = 1
  cm : t.cm = 0
  hole : t.hole = none
  O : t.O = O
  s : t.s = s
  used : cntF qUsed t.F d.n = 0
def NwPost {σ : Type} {K : SnkF σ} (M : Snk K) (P : PSnk K) (w : World) (z n : Int) (O : Nat → Prop) (s : σ) (e : Ending) (w' : World) : Prop :=
  (e = .returned (.tuple #[.pointer none, .int .i64 1]) ∧ Below w.heap.size w w' ∧ (z < 16 ∨ 4096 < z ∨ n < 1 ∨ 4096 < n)) ∨
  (∃ d t, e = .returned (.tuple #[.pointer (some ⟨d.Q, 0, none⟩), .int .i64 0]) ∧ (16 ≤ z ∧ z ≤ 4096 ∧ 1 ≤ n ∧ n ≤ 4096) ∧ Pg0 M P w w' z.toNat n.toNat O s d t)
section
variable {σ : Type} {K : SnkF σ} {M : Snk K} {P : PSnk K} {w w' w1 w2 w3 w4 w5 : World} {O : Nat → Prop} {s : σ}
theorem cnt_zero (n : Nat) : cntF qUsed (fun _ => Fr.zero) n = 0 := by
  induction n with
  | zero => rfl
  | succ n ih => rw [cntF_no (q := qUsed) rfl, ih]
theorem visP_none : visP (fun _ => none) none = fun _ => none := by
  funext k
  unfold visP
  split <;> rfl
theorem pgF_none : pgF (fun _ => none) = fun _ => none := by
  funext v
  unfold pgF
  cases intOfV v <;> rfl
theorem pg0_mk (z n : Nat) (hz : 16 ≤ z ∧ z ≤ 4096) (hn : 1 ≤ n ∧ n ≤ 4096) (ha : M.At w O s) (hin : P.In s) {Pb B Mp : Nat} (hp : PoolAt w1 Pb B Mp n (fun _ => Fr.zero) 0 (fun _ => none) 0) (h1 : w.heap.size ≤ Pb) (h2 : w.heap.size ≤ B) (h3 : w.heap.size ≤ Mp) (hb : Below w.heap.size w w1) {T : TypeId}
    (hw : w2 = (w1.alloc (.map #[] 0)).alloc (.cells #[.pointer (some ⟨Pb, 0, none⟩), .int .i64 (z : Nat), .int .i64 (n : Nat), .iface M.T (.pointer M.p), .map (some w1.heap.size), .int .i64 1] T)) :
    ∃ d t, d.Q = w1.heap.size + 1 ∧ Pg0 M P w w2 z n O s d t := by
  subst hw
  have hb1 : Below w1.heap.size w1 (w1.alloc (.map #[] 0)) := (Below.refl _ _).alloc (Nat.le_refl _) _
  have e1 : (w1.alloc (.map #[] 0)).heap.size = w1.heap.size + 1 := by simp
  have hb2 : Below (w1.alloc (.map #[] 0)).heap.size (w1.alloc (.map #[] 0)) ((w1.alloc (.map #[] 0)).alloc (.cells #[.pointer (some ⟨Pb, 0, none⟩), .int .i64 (z : Nat), .int .i64 (n : Nat), .iface M.T (.pointer M.p), .map (some w1.heap.size), .int .i64 1] T)) := (Below.refl _ _).alloc (Nat.le_refl _) _
  obtain ⟨w3, hw3⟩ : ∃ w3, w3 = w1.alloc (.map #[] 0) := ⟨_, rfl⟩
  obtain ⟨w4, hw4⟩ : ∃ w4, w4 = w3.alloc (.cells #[.pointer (some ⟨Pb, 0, none⟩), .int .i64 (z : Nat), .int .i64 (n : Nat), .iface M.T (.pointer M.p), .map (some w1.heap.size), .int .i64 1] T) := ⟨_, rfl⟩
  have hmp := MapIs.made (P := Tryz.prog) (k := 3) w1
  rw [← hw3] at hb1 hb2 e1 hmp ⊢
  rw [← hw4] at hb2 ⊢
  have hc : ∀ k v, (#[.pointer (some ⟨Pb, 0, none⟩), .int .i64 (z : Nat), .int .i64 (n : Nat), .iface M.T (.pointer M.p), .map (some w1.heap.size), .int .i64 1] : Array Value)[k]? = some v → w4.cell? ⟨w1.heap.size + 1, k, none⟩ = some v := fun k v hv => by
    rw [hw4, ← e1, cell_of_row _ _ _ _ _ _ (heap_alloc_new w3 _)]; exact hv
  have hbw : Below w.heap.size w w4 := (hb.trans (hb1.mono hb.size)).trans (hb2.mono (Nat.le_trans hb.size hb1.size))
  refine ⟨⟨w1.heap.size + 1, Pb, B, Mp, w1.heap.size, n, z⟩, ⟨fun _ => Fr.zero, 0, fun _ => none, 0, fun _ => none, 0, 1, none, O, s⟩, rfl, ⟨⟨hc 0 _ rfl, hc 1 _ rfl, hc 2 _ rfl, hc 3 _ rfl, hc 4 _ rfl, hc 5 _ rfl, fun k => ?_, (hp.up hb1).up hb2, ?_, fun i x hx => (by cases hx), M.off ha (Off.of_below (S := fun _ => False) hbw) (fun _ h => h.elim), fun k hk e => ?_, fun i j x y k hx => (by cases hx), ?_, hz⟩,
    ⟨hin, ⟨⟨fun j _ hu => (by cases hu), fun k j hg => (by cases hg)⟩, fun j _ => ⟨Int.le_refl _, show (0 : Int) ≤ 1048576 by decide⟩⟩, fun j _ => rfl, fun i j hg => (by cases hg), fun i x hx => (by cases hx), fun i x hx => (by cases hx), fun i x B c L hx => (by cases hx), fun i x hx => (by cases hx), fun i x hx => (by cases hx), fun i hh => (by cases hh), Nat.le_refl _⟩, hbw, fun k hk => ?_, rfl, rfl, rfl, rfl, rfl, rfl, rfl, rfl, cnt_zero n⟩⟩
  · unfold World.frozen?
    rw [hw4, ← e1, heap_alloc_new]
    simp
  · show MapIs Tryz.prog 3 w4 w1.heap.size (pgF (visP (fun _ => none) none)) 0
    rw [visP_none, pgF_none]
    exact hmp.off (S := fun _ => False) (Off.of_below hb2) id
  · have hl := M.lt ha e
    have hwb := hb.size
    rcases hk with e | e | e | e | e | ⟨i, y, hy, _⟩
    · have e' : k = w1.heap.size + 1 := e
      omega
    · have e' : k = Pb := e
      omega
    · have e' : k = B := e
      omega
    · have e' : k = Mp := e
      omega
    · have e' : k = w1.heap.size := e
      omega
    · cases hy
  · have := hp.ltM
    show Mp ≠ w1.heap.size
    omega
  · have hwb := hb.size
    rcases hk with e | e | e | e | e | ⟨i, y, hy, _⟩
    · have e' : k = w1.heap.size + 1 := e
      omega
    · have e' : k = Pb := e
      omega
    · have e' : k = B := e
      omega
    · have e' : k = Mp := e
      omega
    · have e' : k = w1.heap.size := e
      omega
    · cases hy
set_option maxRecDepth 100000 in
set_option maxHeartbeats 4000000 in
theorem pgNew_any (z n : Int) (ha : M.At w O s) (hin : P.In s) :
    Calls Tryz.prog 57 #[.int .i64 z, .int .i64 n, .iface M.T (.pointer M.p)] w (NwPost M P w z n O s) := by
  by_cases h1 : z < 16
  · have HG : Hid (NwPost M P w z n O s (.returned (.tuple #[.pointer none, .int .i64 1])) w) := Lib.hid (.inl ⟨rfl, Below.refl _ _, .inl h1⟩)
    clear ha hin
    go_enter Tryz.func57, Tryz.ntmps57
    go_wp2
    go_ret2
    exact HG.out
  by_cases h2 : 4096 < z
  · have HG : Hid (NwPost M P w z n O s (.returned (.tuple #[.pointer none, .int .i64 1])) w) := Lib.hid (.inl ⟨rfl, Below.refl _ _, .inr (.inl h2)⟩)
    clear ha hin
    go_enter Tryz.func57, Tryz.ntmps57
    go_wp2
    go_ret2
    exact HG.out
  by_cases h3 : n < 1 ∨ 4096 < n
  · have HG : Hid (NwPost M P w z n O s (.returned (.tuple #[.pointer none, .int .i64 1])) w) := Lib.hid (.inl ⟨rfl, Below.refl _ _, .inr (.inr h3)⟩)
    have HN := Lib.hid (New_bad w n h3)
    clear ha hin h3
    go_enter Tryz.func57, Tryz.ntmps57
    go_wp2_with fail
    refine HN.out.mono ?_
    rintro e w1 ⟨rfl, rfl⟩
    go_wp2
    go_ret2
    exact HG.out
  · obtain ⟨z, rfl⟩ := Int.eq_ofNat_of_zero_le (show 0 ≤ z by omega)
    obtain ⟨n, rfl⟩ := Int.eq_ofNat_of_zero_le (show 0 ≤ n by omega)
    have HN := Lib.hid (New_any w n (by omega) (by omega))
    have HA := Lib.hid ha
    have HI := Lib.hid hin
    have HB := Lib.hid (show (16 ≤ z ∧ z ≤ 4096) ∧ 1 ≤ n ∧ n ≤ 4096 by omega)
    clear ha hin h3
    go_enter Tryz.func57, Tryz.ntmps57
    go_wp2_with fail
    refine HN.out.mono ?_
    rintro e w1 ⟨Pb, B, Mp, rfl, hp, g1, g2, g3, hb⟩
    have HG : Hid (∀ W T, W = (w1.alloc (.map #[] 0)).alloc (.cells #[.pointer (some ⟨Pb, 0, none⟩), .int .i64 (z : Nat), .int .i64 (n : Nat), .iface M.T (.pointer M.p), .map (some w1.heap.size), .int .i64 1] T) → NwPost M P w (z : Int) (n : Int) O s (.returned (.tuple #[.pointer (some ⟨w1.heap.size + 1, 0, none⟩), .int .i64 0])) W) := Lib.hid fun W T hW => by
      obtain ⟨d, t, e1, e2⟩ := pg0_mk (P := P) z n HB.out.1 HB.out.2 HA.out HI.out hp g1 g2 g3 hb hW
      exact .inr ⟨d, t, by rw [e1], by have := HB.out; omega, by simpa using e2⟩
    have hmm := @run_makeMap Tryz.prog
    clear hp g1 g2 g3 hb HN
    go_wp2
    go_ret2
    exact HG.out _ _ rfl
end
end Go.Proofs.YtlhfjaagkgengaaGreat
namespace Go.Proofs.YtlhfjaagkgengaaGreat
open Go.RowKit Go.Maps
set_option linter.unusedVariables false
set_option linter.unusedSimpArgs false
def usesP (pm : Int → Option Pg) (id : Int) (u : Int) : Int → Option Pg := match pm id with
  | none => pm
  | some x => updP pm id (some { x with uses := u })
section
variable {σ : Type} {K : SnkF σ} {M : Snk K} {P : PSnk K} {w w' w1 w2 w3 w4 w5 : World} {d : PD} {t t' t1 t2 : PSt σ} {id : Int} {x y : Pg} {j : Nat} {z k1 k2 : Nat} {E : Int → Prop}
theorem uses_stp (h : PgrAt M w d t) (hi : PI P d t) (hx : t.pm id = some x) (u : Int) : Stp M P w (w.setCell ⟨x.X, 5, none⟩ (.int .i64 u)) d t { t with pm := updP t.pm id (some { x with uses := u }) } := by
  have hpg := h.pg id x hx
  have ho1 : Off x.blk w (w.setCell ⟨x.X, 5, none⟩ (.int .i64 u)) := (Off.refl x.blk w).setCell (p := ⟨x.X, 5, none⟩) (.inl rfl) _
  have hp1 : PgAt (w.setCell ⟨x.X, 5, none⟩ (.int .i64 u)) d.z { x with uses := u } := hpg.set (k := 5) (x' := { x with uses := u }) rfl rfl rfl rfl rfl rfl rfl (fun B c L e => hpg.bsX h.zs.1 e)
  have hpm : ∀ i y, updP t.pm id (some { x with uses := u }) i = some y → ∃ y0, t.pm i = some y0 ∧ y.bb = y0.bb ∧ y.put = y0.put ∧ y.zero = y0.zero ∧ y.at_ = y0.at_ ∧ y.X = y0.X := fun i y e => by
    unfold updP at e
    split at e
    · rename_i h; cases e; rw [h]; exact ⟨x, hx, rfl, rfl, rfl, rfl, rfl⟩
    · exact ⟨y, e, rfl, rfl, rfl, rfl, rfl⟩
  refine ⟨h.setPage hx rfl (fun k hk => .inl hk) ho1 hp1, ⟨hi.inn, hi.kv, hi.pz, fun i j hg => ?_, fun i y hy hb => ?_, fun i y hy hp => ?_, fun i y B c L hy hzz hb => ?_, fun i y hy h1 h2 => ?_, fun i y hy => ?_, hi.hol, hi.nx1⟩, ho1.mono fun k hk => .inl (.inr (.inr (.inr (.inr (.inr ⟨id, x, hx, hk⟩))))), fun k hk => .inl ?_⟩
  · obtain ⟨y, e1, e2⟩ := hi.res i j hg
    by_cases e : i = id
    · subst e
      rw [hx] at e1
      cases e1
      exact ⟨_, updP_same _ _ _, e2⟩
    · exact ⟨y, (updP_ne _ _ e).trans e1, e2⟩
  · obtain ⟨y0, e0, e1, _⟩ := hpm i y hy
    exact hi.has i y0 e0 (by rw [← e1]; exact hb)
  · obtain ⟨y0, e0, e1, e2, e3, e4, _⟩ := hpm i y hy
    rw [e1, e3, e4]
    exact hi.put i y0 e0 (by rw [← e2]; exact hp)
  · obtain ⟨y0, e0, e1, e2, e3, e4, _⟩ := hpm i y hy
    exact hi.zer i y0 B c L e0 (by rw [← e3]; exact hzz) (by rw [← e1]; exact hb)
  · obtain ⟨y0, e0, e1, e2, e3, e4, _⟩ := hpm i y hy
    rw [e1]
    exact hi.dty i y0 e0 (by rw [← e2]; exact h1) (by rw [← e3]; exact h2)
  · obtain ⟨y0, e0, _⟩ := hpm i y hy
    exact hi.ids i y0 e0
  · rcases hk with hk | hk
    · rcases own_upd hx hk with e | e
      · exact .inl e
      · exact .inl (.inr (.inr (.inr (.inr (.inr ⟨id, x, hx, e⟩)))))
    · exact .inr hk
set_option maxRecDepth 100000 in
set_option maxHeartbeats 4000000 in
theorem keep_any (h : PgrAt M w d t) (hi : PI P d t) (h0 : t.hole = none) (hid : -9223372036854775808 ≤ id ∧ id ≤ 9223372036854775807) (hu : ∀ x, t.pm id = some x → 0 ≤ x.uses ∧ x.uses ≤ 1099511627776) :
    Calls Tryz.prog 66 #[.pointer (some ⟨d.Q, 0, none⟩), .int .i64 id] w fun e w' =>
      e = .returned (.tuple #[]) ∧ match t.pm id with
        | none => w' = w
        | some x => Stp M P w w' d t { t with pm := updP t.pm id (some { x with uses := x.uses + 1 }) } := by
  have hlk := h.look hid
  rw [vis_none h0] at hlk
  have q4 := h.q4
  cases hx : t.pm id with
  | none =>
    rw [hx] at hlk
    simp only [pgP, Option.map_none] at hlk
    clear h hi h0 hx hu
    go_enter Tryz.func66, Tryz.ntmps66
    go_wp2
    go_end0
    exact ⟨rfl, rfl⟩
  | some x =>
    rw [hx] at hlk
    simp only [pgP, Option.map_some] at hlk
    have p5 := (h.pg id x hx).c5
    have f5 := (h.pg id x hx).fz 5
    have lX := lt_of_cell p5
    have hur := hu x hx
    have hwr : IntKind.i64.wrap (x.uses + 1) = x.uses + 1 := by rw [IntWalk.i64_in _ (by omega)]
    have HS := Lib.hid (uses_stp h hi hx (x.uses + 1))
    clear h hi h0 hx hu
    go_enter Tryz.func66, Tryz.ntmps66
    go_wp2
    go_end0
    exact ⟨rfl, HS.out⟩
theorem has_any (h : PgrAt M w d t) (h0 : t.hole = none) (hid : -9223372036854775808 ≤ id ∧ id ≤ 9223372036854775807) :
    Calls Tryz.prog 77 #[.pointer (some ⟨d.Q, 0, none⟩), .int .i64 id] w fun e w' => e = .returned (.bool (t.pm id).isSome) ∧ w' = w := by
  have hlk := h.look hid
  rw [vis_none h0] at hlk
  have q4 := h.q4
  cases hx : t.pm id with
  | none =>
    rw [hx] at hlk
    simp only [pgP, Option.map_none] at hlk
    clear h h0 hx
    go_enter Tryz.func77, Tryz.ntmps77
    go_wp2
    go_ret
    exact ⟨rfl, rfl⟩
  | some x =>
    rw [hx] at hlk
    simp only [pgP, Option.map_some] at hlk
    clear h h0 hx
    go_enter Tryz.func77, Tryz.ntmps77
    go_wp2
    go_ret
    exact ⟨rfl, rfl⟩
def sharedP (pm : Int → Option Pg) (id : Int) : Bool := match pm id with
  | none => false
  | some x => decide (1 < x.uses)
theorem shared_any (h : PgrAt M w d t) (h0 : t.hole = none) (hid : -9223372036854775808 ≤ id ∧ id ≤ 9223372036854775807) :
    Calls Tryz.prog 103 #[.pointer (some ⟨d.Q, 0, none⟩), .int .i64 id] w fun e w' => e = .returned (.bool (sharedP t.pm id)) ∧ w' = w := by
  have hlk := h.look hid
  rw [vis_none h0] at hlk
  have q4 := h.q4
  unfold sharedP
  cases hx : t.pm id with
  | none =>
    rw [hx] at hlk
    simp only [pgP, Option.map_none] at hlk
    clear h h0 hx
    go_enter Tryz.func103, Tryz.ntmps103
    go_wp2
    go_ret
    exact ⟨rfl, rfl⟩
  | some x =>
    rw [hx] at hlk
    simp only [pgP, Option.map_some] at hlk
    have p5 := (h.pg id x hx).c5
    have lX := lt_of_cell p5
    clear h h0 hx
    go_enter Tryz.func103, Tryz.ntmps103
    go_wp2
    go_ret
    exact ⟨by simp, rfl⟩
def LetPost (M : Snk K) (P : PSnk K) (w : World) (d : PD) (t : PSt σ) (id : Int) (x : Pg) (e : Ending) (w' : World) : Prop :=
  e = .returned (.tuple #[]) ∧ ((1 < x.uses ∧ Stp M P w w' d t { t with pm := updP t.pm id (some { x with uses := x.uses - 1 }) }) ∨
    (x.uses ≤ 1 ∧ ∃ t', Stp M P w w' d t t' ∧ t'.pm = updP t.pm id none ∧ t'.cm = t.cm - 1 ∧ t'.nx = t.nx ∧ t'.hole = t.hole ∧ t'.s = t.s))
theorem let_any (h : PgrAt M w d t) (hi : PI P d t) (h0 : t.hole = none) (hid : -9223372036854775808 ≤ id ∧ id ≤ 9223372036854775807) (hx : t.pm id = some x) (hu : 0 ≤ x.uses ∧ x.uses ≤ 1099511627776) :
    Calls Tryz.prog 65 #[.pointer (some ⟨d.Q, 0, none⟩), .int .i64 id] w (LetPost M P w d t id x) := by
  have hlk := h.look hid
  rw [vis_none h0, hx] at hlk
  have q4 := h.q4
  simp only [pgP, Option.map_some] at hlk
  have p5 := (h.pg id x hx).c5
  have f5 := (h.pg id x hx).fz 5
  have lX := lt_of_cell p5
  have hwr : IntKind.i64.wrap (x.uses - 1) = x.uses - 1 := by rw [IntWalk.i64_in _ (by omega)]
  have hs := uses_stp h hi hx (x.uses - 1)
  have HS := Lib.hid hs
  have HD : Hid (Calls Tryz.prog 64 #[.pointer (some ⟨d.Q, 0, none⟩), .int .i64 id] (w.setCell ⟨x.X, 5, none⟩ (.int .i64 (x.uses - 1))) fun e w' => ∃ er, e = .returned (.int .i64 er) ∧ ∃ t', Stp M P w w' d t t' ∧ t'.pm = updP t.pm id none ∧ t'.cm = t.cm - 1 ∧ t'.nx = t.nx ∧ t'.hole = t.hole ∧ t'.s = t.s) := Lib.hid (by
    refine (drop_any hs.at_ hs.inv h0 hid).mono ?_
    rintro e w' ⟨t', er, rfl, hst, hc⟩
    refine ⟨er, rfl, t', hs.trans hst, ?_⟩
    rcases hc with ⟨_, hc, _⟩ | ⟨_, _, h1, h2, h3, h4, h5⟩
    · have hc2 : updP t.pm id (some { x with uses := x.uses - 1 }) id = none := hc
      rw [updP_same] at hc2; cases hc2
    · refine ⟨?_, h2, h3, h4, h5⟩
      rw [h1]
      show updP (updP t.pm id (some { x with uses := x.uses - 1 })) id none = _
      funext i
      unfold updP
      by_cases e : i = id
      · rw [if_pos e, if_pos e]
      · rw [if_neg e, if_neg e, if_neg e])
  clear h hi h0 hx hs
  by_cases h1 : 1 < x.uses
  · have hd : decide (x.uses - 1 < 1) = false := decide_eq_false (by omega)
    have hd2 : ¬ x.uses - 1 < 1 := by omega
    go_enter Tryz.func65, Tryz.ntmps65
    go_wp2
    go_end0
    exact ⟨rfl, .inl ⟨h1, HS.out⟩⟩
  · have hd2 : x.uses - 1 < 1 := by omega
    go_enter Tryz.func65, Tryz.ntmps65
    go_wp2_with (go_at_call 64; refine HD.out.mono ?_; rintro e w1 ⟨er, rfl, hst⟩; have HST := Lib.hid hst; clear hst)
    go_end0
    exact ⟨rfl, .inr ⟨by omega, HST.out⟩⟩
theorem peekp_any (hK : K.Good) (hmi : P.Miss) (h : PgrAt M w d t) (h0 : t.hole = none) (hid : -9223372036854775808 ≤ id ∧ id ≤ 9223372036854775807) (hx : t.pm id = some x) (hin : P.In t.s) :
    Calls Tryz.prog 102 #[.pointer (some ⟨d.Q, 0, none⟩), .int .i64 id] w (PkPost (M := M) P w d t x) := by
  have hlk := h.look hid
  rw [vis_none h0, hx] at hlk
  have q4 := h.q4
  simp only [pgP, Option.map_some] at hlk
  have HP := Lib.hid (peek_any hK hmi h hx hin)
  unfold PkPost at HP
  clear hK hmi h h0 hx hin
  go_enter Tryz.func102, Tryz.ntmps102
  go_wp2_with (go_at_call 123; refine HP.out.mono ?_; rintro e w1 ⟨s', v, er, rfl, hr⟩; have HR := Lib.hid hr; clear hr)
  go_ret2
  exact ⟨s', v, er, rfl, HR.out⟩
end
end Go.Proofs.YtlhfjaagkgengaaGreat
