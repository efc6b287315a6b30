/- A pager: what a page holds; peek. -/
import Derived.Test.YtmipngefpedfpaaPaZ
namespace Go.Proofs.Ytmipngefpedfpaa
open Go.RowKit Go.Maps
set_option linter.unusedVariables false
set_option linter.unusedSimpArgs false

/-- What a page holds. -/
def cont (rd : Rdr) (z : Nat) (x : Pg) : Option Bytes := match x.bb with
  | some (_, _, L) => some L
  | none => if x.zero then some (zeros z) else (rd x.at_).bind fun b => if b.length = z then some b else none
structure SkSame {σ : Type} {K : SnkF σ} (P : PSnk K) (s s' : σ) : Prop where
  inn : P.In s'
  rd : P.rd s' = P.rd s
  cnt : P.cnt s' = P.cnt s
  room : P.room s' = P.room s
  rdy : ∀ n, K.Rdy s n → K.Rdy s' n
theorem SkSame.refl {σ : Type} {K : SnkF σ} {P : PSnk K} {s : σ} (h : P.In s) : SkSame P s s := ⟨h, rfl, rfl, rfl, fun _ h => h⟩
theorem SkSame.trans {σ : Type} {K : SnkF σ} {P : PSnk K} {s s1 s2 : σ} (h : SkSame P s s1) (k : SkSame P s1 s2) : SkSame P s s2 := ⟨k.inn, k.rd.trans h.rd, k.cnt.trans h.cnt, k.room.trans h.room, fun n e => k.rdy n (h.rdy n e)⟩
/-- New bytes. -/
def FreshBy (w w' : World) (z : Nat) (v : Value) (L : Bytes) : Prop := ∃ B c, v = .slice (some ⟨B, 0, none⟩) z c ∧ ByAt w' z B c L ∧ w.heap.size ≤ B
theorem OwB.byAt {B : Nat} {w : World} {g c : Nat} {L : Bytes} (h : OwB B w (.slice (some ⟨g, 0, none⟩) L.length c) L) (hp : 0 < L.length) : ByAt w L.length g c L ∧ B ≤ g := by
  obtain ⟨_, h2, h3⟩ := h.part
  rcases h.2 with ⟨e, _⟩ | ⟨g', cap, cur, e, hb, hg, q1, q2, q3, q4⟩
  · cases e
  · cases e
    refine ⟨⟨rfl, h2, h3, fun k => by unfold World.frozen?; rw [hg]; simp, ?_⟩, hb⟩
    exact ⟨cur, _, hg, by omega⟩
theorem FrB.fresh {w0 w w' : World} {b c : Nat} {L : Bytes} {z : Nat} (h : FrB w w' (.slice (some ⟨b, 0, none⟩) z c) L) (hz : 0 < z) (hb : w0.heap.size ≤ w.heap.size) : FreshBy w0 w' z (.slice (some ⟨b, 0, none⟩) z c) L := by
  have hl := h.len
  subst hl
  obtain ⟨h1, h2⟩ := h.own.byAt hz
  exact ⟨b, c, rfl, h1, Nat.le_trans hb h2⟩
def PkPost {σ : Type} {K : SnkF σ} {M : Snk K} (P : PSnk K) (w : World) (d : PD) (t : PSt σ) (x : Pg) (e : Ending) (w' : World) : Prop :=
  ∃ s' v er, e = .returned (.tuple #[v, .int .i64 er]) ∧ PgrAt M w' d { t with s := s' } ∧ Off t.O w w' ∧ SkSame P t.s s' ∧
    ((∃ L, cont (P.rd t.s) d.z x = some L ∧ L.length = d.z ∧ er = 0 ∧ FreshBy w w' d.z v L) ∨ (cont (P.rd t.s) d.z x = none ∧ x.bb = none ∧ x.zero = false ∧ er = 20 ∧ v = .slice none 0 0))
section
variable {σ : Type} {K : SnkF σ} {M : Snk K} {P : PSnk K} {w w' : World} {d : PD} {t : PSt σ}
/-- Get changes nothing of a sink that keeps. -/
theorem get_same (hK : K.Good) (hmi : P.Miss) {s : σ} (hin : P.In s) (a : Int × Int) : SkSame P s (K.get s a).1 ∧ ((∃ b, P.rd s a = some b ∧ (K.get s a).2 = (b, 0)) ∨ (P.rd s a = none ∧ (K.get s a).2.2 = 20)) := by
  cases h : P.rd s a with
  | some b =>
    obtain ⟨h1, h2, h3, h4, h5⟩ := P.get s a b hin h
    exact ⟨⟨h2, h3, h4, h5, fun n e => hK.getR s a n e⟩, .inl ⟨b, rfl, h1⟩⟩
  | none =>
    obtain ⟨h1, h2, h3, h4, h5⟩ := hmi.no s a hin h
    exact ⟨⟨h2, h3, h4, h5, fun n e => hK.getR s a n e⟩, .inr ⟨rfl, h1⟩⟩
theorem pk_yes {x : Pg} {L : Bytes} {s' : σ} {w1 w2 : World} {b c : Nat} (hc : cont (P.rd t.s) d.z x = some L) (hl : L.length = d.z) (ho : Off t.O w w1) (h : PgrAt M w1 d { t with s := s' }) (hs : SkSame P t.s s') (hf : FrB w1 w2 (.slice (some ⟨b, 0, none⟩) d.z c) L) (hz : 0 < d.z) :
    PkPost (M := M) P w d t x (.returned (.tuple #[.slice (some ⟨b, 0, none⟩) d.z c, .int .i64 0])) w2 :=
  ⟨s', _, 0, rfl, h.up hf.bel, ho.step hf.bel, hs, .inl ⟨L, hc, hl, rfl, hf.fresh hz ho.size⟩⟩
theorem pk_no {x : Pg} {s' : σ} {w1 : World} (hc : cont (P.rd t.s) d.z x = none) (hb : x.bb = none ∧ x.zero = false) (ho : Off t.O w w1) (h : PgrAt M w1 d { t with s := s' }) (hs : SkSame P t.s s') :
    PkPost (M := M) P w d t x (.returned (.tuple #[.slice none 0 0, .int .i64 20])) w1 :=
  ⟨s', _, 20, rfl, h, ho, hs, .inr ⟨hc, hb.1, hb.2, rfl, rfl⟩⟩
/-- Reads alone. -/
theorem PgrAt.sink {s' : σ} (h : PgrAt M w d t) (ha : M.At w' t.O s') (ho : Off t.O w w') : PgrAt M w' d { t with s := s' } := h.off ho h.nO ha (fun _ => .inl)
set_option maxRecDepth 100000 in
set_option maxHeartbeats 4000000 in
theorem peek_any (hK : K.Good) (hmi : P.Miss) (h : PgrAt M w d t) {id : Int} {x : Pg} (hx : t.pm id = some x) (hin : P.In t.s) :
    Calls Try.prog 35 #[.pointer (some ⟨d.Q, 0, none⟩), .pointer (some ⟨x.X, 0, none⟩)] w (PkPost (M := M) P w d t x) := by
  have H := Lib.hid h
  have HPG := Lib.hid (h.pg id x hx)
  have HIN := Lib.hid hin
  have HMI := Lib.hid hmi
  obtain ⟨hz1, hz2⟩ := h.zs
  have q1 := h.q1
  have q3 := h.q3
  have lQ := h.ltQ
  have p0 := (h.pg id x hx).c0
  have p1 := (h.pg id x hx).c1
  have p2 := (h.pg id x hx).c2
  have p4 := (h.pg id x hx).c4
  have lX := (h.pg id x hx).lt
  have heq := fun (w : World) (a : Option Addr) (n c : Nat) => run_neq_slice_nil_any (P := Try.prog) w 22 5 a n c 0 0 Try.underlying22
  clear h hx hin hmi
  go_enter Try.func35, Try.ntmps35
  cases hb : x.bb with
  | some y =>
    obtain ⟨B, c, L⟩ := y
    have hby := HPG.out.bs B c L hb
    have hv : x.bv = .slice (some ⟨B, 0, none⟩) L.length c := by unfold Pg.bv; rw [hb]
    have hl := hby.len
    rw [hv, hl] at p0
    have HC : Hid (cont (P.rd t.s) d.z x = some L) := Lib.hid (by unfold cont; rw [hb])
    have HCL := Lib.hid (clone_any w (some ⟨B, 0, none⟩) d.z c L hby.sby (by omega))
    have HL := Lib.hid hl
    clear hb hv hby hl
    go_wp2_with fail
    refine HCL.out.mono ?_
    rintro e w1 ⟨A', c', rfl, hf, hA⟩
    have HF := Lib.hid hf
    have HA := Lib.hid hA
    clear hf hA
    go_wp2
    go_ret2
    obtain ⟨b, rfl⟩ := HA.out (by omega)
    exact ⟨t.s, _, 0, rfl, H.out.up HF.out.bel, Off.of_below HF.out.bel, SkSame.refl HIN.out, .inl ⟨L, HC.out, HL.out, rfl, HF.out.fresh (w0 := w) (by omega) (Nat.le_refl _)⟩⟩
  | none =>
    have hv : x.bv = .slice none 0 0 := by unfold Pg.bv; rw [hb]
    rw [hv] at p0
    cases hz : x.zero with
    | true =>
      have HC : Hid (cont (P.rd t.s) d.z x = some (zeros d.z)) := Lib.hid (by unfold cont; rw [hb, hz]; rfl)
      rw [hz] at p4
      have hmk := run_make_bytes d.z (by omega) w
      clear hb hv hz
      go_wp2
      go_ret2
      have hf := FrB.zmade w d.z (by omega)
      refine ⟨t.s, _, 0, rfl, H.out.up hf.bel, Off.of_below hf.bel, SkSame.refl HIN.out, .inl ⟨zeros d.z, HC.out, zeros_length _, rfl, hf.fresh (by omega) (Nat.le_refl _)⟩⟩
    | false =>
      have HBB := Lib.hid (show x.bb = none ∧ x.zero = false from ⟨hb, hz⟩)
      rw [hz] at p4
      have hg := fun (w' : World) (hb : Off (fun _ => False) w w') => M.get x.at_ (M.off H.out.at_ hb (fun _ => False.elim))
      have HG := Lib.hid hg
      have HCONT := Lib.hid (show cont (P.rd t.s) d.z x = (P.rd t.s x.at_).bind fun b => if b.length = d.z then some b else none by unfold cont; rw [hb, hz]; rfl)
      have HSAME := Lib.hid (get_same hK HMI.out HIN.out x.at_)
      have nG := M.nilG
      have mG := M.metG
      have eG := M.entG
      unfold addrV at HG
      clear hb hv hz hg
      go_upto_region 5 with (fail)
      refine wp_region_up_tail 10 (by kernel_rfl) (by kernel_rfl) (by kernel_rfl) ?_
      simp only [List.take_succ_cons, List.take_zero, List.drop_succ_cons, List.drop_zero]
      repeat (go_big_quiet_step (fail))
      refine wpQuiet_nil ?_
      rintro _ ⟨g, rfl⟩
      go_wp2_with fail
      have hb1 : Off (fun _ => False) w g.world := Off.of_below g.h
      refine (HG.out g.world hb1).mono ?_
      rintro e w1 ⟨v, rfl, hA, hof, ⟨A, n, c, rfl, hnc, hS, hAd⟩, hfr, hl40⟩
      have hO : Off t.O w w1 := (Off.of_below g.h).trans hof
      have H1 : Hid (PgrAt M w1 d { t with s := (K.get t.s x.at_).1 }) := Lib.hid (H.out.sink hA hO)
      have HOF := Lib.hid hO
      have HS := Lib.hid hS
      have HS1 := HSAME.out
      have HC := HCONT.out
      have hsz := hO.size
      have q1' : w1.cell? ⟨d.Q, 1, none⟩ = some (.int .i64 (d.z : Nat)) := H1.out.q1
      have lQ' := H1.out.ltQ
      clear hA hof hS hAd hfr hO HG q1 q3 lQ p0 p1 p2 p4 lX heq nG mG eG hb1
      rcases HS1 with ⟨hs1, ⟨b, hb, hbg⟩ | ⟨hb, hbg⟩⟩
      · generalize K.get t.s x.at_ = y at *
        obtain ⟨ss, bb, er⟩ := y
        simp only at H1 HS hs1 hbg hl40 ⊢
        obtain ⟨rfl, rfl⟩ := hbg
        have HSS := Lib.hid hs1
        have hnl := HS.out.1
        rw [hb] at HC
        simp only [Option.bind_some] at HC
        clear hs1 hb
        by_cases hz : b.length = d.z
        · rw [if_pos hz] at HC
          have HCC := Lib.hid HC
          have hne : decide (n = d.z) = true := by simp; omega
          have hne2 : ((n : Int) != (d.z : Int)) = false := by simp; omega
          have HZ := Lib.hid hz
          have HNZ := Lib.hid (show n = d.z by omega)
          clear HC hz hnl
          have HCL := Lib.hid (clone_any w1 A n c b HS.out (by have := HNZ.out; omega))
          rw [HNZ.out] at HCL
          go_wp2_with fail
          rw [HNZ.out]
          refine HCL.out.mono ?_
          rintro e w2 ⟨A', c', rfl, hf, hA⟩
          have HF := Lib.hid hf
          have HA := Lib.hid hA
          clear hf hA
          go_wp2
          go_ret2
          obtain ⟨b', rfl⟩ := HA.out (by omega)
          exact pk_yes HCC.out HZ.out HOF.out H1.out HSS.out HF.out (by omega)
        · rw [if_neg hz] at HC
          have HCC := Lib.hid HC
          have hne : decide (n = d.z) = false := by simp; omega
          have hne2 : ((n : Int) != (d.z : Int)) = true := by simp; omega
          have HZ := Lib.hid (show ¬ n = d.z by omega)
          clear HC hz hnl
          go_wp2
          go_ret2
          exact pk_no HCC.out HBB.out HOF.out H1.out HSS.out
      · generalize K.get t.s x.at_ = y at *
        obtain ⟨ss, bb, er⟩ := y
        simp only at H1 HS hs1 hbg hl40 ⊢
        subst hbg
        have HSS := Lib.hid hs1
        rw [hb] at HC
        simp only [Option.bind_none] at HC
        have HCC := Lib.hid HC
        clear hs1 hb HC
        go_wp2
        go_ret2
        exact pk_no HCC.out HBB.out HOF.out H1.out HSS.out
end
end Go.Proofs.Ytmipngefpedfpaa
