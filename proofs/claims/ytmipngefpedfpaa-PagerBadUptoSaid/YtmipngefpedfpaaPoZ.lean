/- A pager: Copy, walked. -/
import Derived.Test.YtmipngefpedfpaaPnZ
namespace Go.Proofs.Ytmipngefpedfpaa
open Go.RowKit Go.Maps
set_option linter.unusedVariables false
set_option linter.unusedSimpArgs false

section
variable {σ : Type} {K : SnkF σ} {M : Snk K} {P : PSnk K} {w w' w1 w2 w3 w4 w5 : World} {d : PD} {t t' t1 t2 : PSt σ} {id : Int} {x y : Pg} {j : Nat} {z k1 k2 : Nat} {E : Int → Prop}
theorem own_by {w0 : World} {t0 : PSt σ} {B c : Nat} {L : Bytes} (S : Stp M P w0 w1 d t0 t1) (h0 : PgrAt M w0 d t0) (hB : w0.heap.size ≤ B) (hby : ByAt w1 d.z B c L) (S2 : Stp M P w1 w2 d t1 t2) (hn : ¬ Own d t1 B) (hz : 16 ≤ d.z) : ByAt w2 d.z B c L ∧ ¬ Own d t2 B := by
  refine ⟨hby.off hz S2.off hn, fun e => ?_⟩
  rcases S2.own B e with e | e
  · exact hn e
  · have := hby.lt hz; omega
/-- What add says is what Copy says. -/
def CpAdd {σ : Type} {K : SnkF σ} (M : Snk K) (P : PSnk K) (w : World) (d : PD) (t : PSt σ) (id : Int) (e : Ending) (w' : World) : Prop :=
  ∃ r, e = .returned (.int .i64 r) ∧ CpPost (M := M) P w d t id (.returned (.tuple #[.int .i64 r, .int .i64 0])) w'
theorem cp_of_mk (hK : K.Good) (h : PgrAt M w d t) (hi : PI P d t) (hx : t.pm id = some x) (hpz : x.put = true ∨ x.zero = true) {e : Ending} (hm : MkPost M P w d t x.at_ x.put x.zero e w') : CpAdd M P w d t id e w' := by
  obtain ⟨t', y, rfl, S, mk, hb, ha, hp, hz, hu, hs⟩ := hm
  refine ⟨t.nx, rfl, t', t.nx, 0, rfl, S, .inl ⟨rfl, rfl, x, y, hx, ⟨mk.ev.more hK (by omega), mk.pg, mk.nx, mk.hole, mk.cm⟩, hu, fun L hL => ?_⟩⟩
  rw [hs]
  exact cp_cont hi hx hpz (fun B c L e => ((h.pg id x hx).bs B c L e).len) hb ha hp hz hL
/-- With a page that nobody knows. -/
def cpV {σ : Type} (t : PSt σ) (s1 : σ) (X : Nat) : PSt σ := { t with s := s1, pm := updP t.pm t.nx (some ⟨X, none, (0, 0), false, true, 0⟩), hole := some (t.nx : Int) }
theorem cp_virt {s1 : σ} {B c : Nat} {L : Bytes} (hK : K.Good) (h : PgrAt M w d t) (hi : PI P d t) (h0 : t.hole = none) (S : Stp M P w w1 d t { t with s := s1 }) (hB : w.heap.size ≤ B) (hby : ByAt w1 d.z B c L) :
    (Stp M P w (w1.alloc (.cells #[.slice none 0 0, .int .i64 0, .int .i64 0, .bool false, .bool true, .int .i64 0] 74)) d t (cpV t s1 w1.heap.size) ∧ ByAt (w1.alloc (.cells #[.slice none 0 0, .int .i64 0, .int .i64 0, .bool false, .bool true, .int .i64 0] 74)) d.z B c L) ∧
      w.heap.size ≤ B ∧ ¬ Own d (cpV t s1 w1.heap.size) B ∧ Ev P d.z 0 (· = (t.nx : Int)) { t with s := s1 } (cpV t s1 w1.heap.size) := by
  have hz := h.zs.1
  have hb : Below w1.heap.size w1 (w1.alloc (.cells #[.slice none 0 0, .int .i64 0, .int .i64 0, .bool false, .bool true, .int .i64 0] 74)) := (Below.refl _ _).alloc (Nat.le_refl _) _
  obtain ⟨S2, E2⟩ := virt_stp (x := ⟨w1.heap.size, none, (0, 0), false, true, 0⟩) hK S.at_ S.inv h0 hb (PgAt.new w1 d.z (0, 0) false true 0) rfl (Nat.le_refl _) (fun e => by cases e) (.inr rfl)
  refine ⟨⟨S.trans S2, hby.off (S := fun _ => False) hz (Off.of_below hb) (fun e => e)⟩, hB, fun e => ?_, E2⟩
  rcases S2.own B e with e | e
  · have := h.ltO (k := B) e; omega
  · have := hby.lt hz; omega
theorem cp_ev {s1 : σ} {X : Nat} (hx : t.pm id = some x) (hp : x.put = false) (h0 : Ev P z 0 none9 t { t with s := s1 }) (h1 : Ev P z 0 (· = (t.nx : Int)) { t with s := s1 } (cpV t s1 X)) (h2 : Ev P z 1 none9 (cpV t s1 X) t2) : Ev P z 1 (· = (t.nx : Int)) t t2 :=
  Ev.trans2 (k1 := 0 + 0) (k2 := 1) (h0.trans h1) h2 (fun hall => absurd (hall id x hx) (by rw [hp]; exact Bool.false_ne_true))
/-- There was no room for it. -/
theorem cp_fail {s1 : σ} {X : Nat} (hx : t.pm id = some x) (h : PgrAt M w d t) (hi : PI P d t) (hh : t.hole = none) (h0 : Ev P d.z 0 none9 t { t with s := s1 }) (h1 : Ev P d.z 0 (· = (t.nx : Int)) { t with s := s1 } (cpV t s1 X)) (S : Stp M P w w1 d t (cpV t s1 X)) (u1 : Stp M P w1 w2 d (cpV t s1 X) t2) (u2 : Ev P d.z 1 none9 (cpV t s1 X) t2) (u3 : Num (cpV t s1 X) t2) (hg : t2.g t.nx = none) (hp : x.put = false) :
    ∃ t3, Stp M P w w2 d t t3 ∧ Num t t3 ∧ Ev P d.z 1 none9 t t3 := by
  have hnn : t2.nx = t.nx := u3.nx
  have hhh : t2.hole = some (t2.nx : Int) := by rw [hnn]; exact u3.hole
  obtain ⟨g1, g2⟩ := unvirt u1.at_ u1.inv hhh (by rw [hnn]; exact hg)
  have S2 := S.trans u1
  have hE := cp_ev hx hp h0 h1 u2
  have hn := pm_next hi hh
  refine ⟨{ t2 with pm := updP t2.pm t2.nx none, hole := none }, ⟨g1, g2, S2.off, fun k hk => S2.own k ?_⟩, ⟨hnn, hh.symm, u3.cm⟩, fun i _ hi2 => ?_, fun i y _ hy => ?_, hE.sub, hE.cnt, hE.keep, hE.room, hE.rdy⟩
  · rcases hk with hk | hk
    · rcases hk with e | e | e | e | e | ⟨i, y, hy, hb⟩
      · exact .inl (.inl e)
      · exact .inl (.inr (.inl e))
      · exact .inl (.inr (.inr (.inl e)))
      · exact .inl (.inr (.inr (.inr (.inl e))))
      · exact .inl (.inr (.inr (.inr (.inr (.inl e)))))
      · have hy' : (if i = (t2.nx : Int) then none else t2.pm i) = some y := hy
        split at hy'
        · cases hy'
        · exact .inl (.inr (.inr (.inr (.inr (.inr ⟨i, y, hy', hb⟩)))))
    · exact .inr hk
  · rw [← hnn] at hE
    by_cases he : i = t2.nx
    · rw [he]; exact updP_same _ _ _
    · exact (updP_ne _ _ he).trans (hE.no i he hi2)
  · have hne : i ≠ t.nx := fun e => by rw [e, hn] at hy; cases hy
    obtain ⟨x1, e1, e2⟩ := hE.pg i y hne hy
    exact ⟨x1, (updP_ne _ _ (by rw [hnn]; exact hne)).trans e1, e2⟩
theorem ev_upd {i0 : Int} {o : Option Pg} {nx' cm' : Nat} {ho' : Option Int} (h : Ev P z k1 (· = i0) t t') : Ev P z k1 (· = i0) t { t' with pm := updP t'.pm i0 o, nx := nx', hole := ho', cm := cm' } :=
  ⟨fun i he hi => (updP_ne _ _ he).trans (h.no i he hi), fun i y he hy => by
    obtain ⟨x1, e1, e2⟩ := h.pg i y he hy
    exact ⟨x1, (updP_ne _ _ he).trans e1, e2⟩, h.sub, h.cnt, h.keep, h.room, h.rdy⟩
set_option maxRecDepth 100000 in
set_option maxHeartbeats 4000000 in
theorem copy_clean (hK : K.Good) (hmi : P.Miss) (h : PgrAt M w d t) (hi : PI P d t) (h0 : t.hole = none) (hid : -9223372036854775808 ≤ id ∧ id ≤ 9223372036854775807) (hn : t.nx < 4611686018427387904) (hrd : K.Rdy t.s 1) (hd : ∀ x, t.pm id = some x → x.put = true ∨ x.zero = true) :
    Calls Try.prog 14 #[.pointer (some ⟨d.Q, 0, none⟩), .int .i64 id] w (CpPost (M := M) P w d t id) := by
  have hlk := h.look hid
  rw [vis_none h0] at hlk
  have H := Lib.hid h
  have HI := Lib.hid hi
  have H0 := Lib.hid h0
  have HRD := Lib.hid hrd
  obtain ⟨hz1, hz2⟩ := h.zs
  have q4 := h.q4
  cases hx : t.pm id with
  | none =>
    rw [hx] at hlk
    have HX := Lib.hid hx
    simp only [pgP, Option.map_none] at hlk
    clear h hi h0 hx hrd hd
    go_enter Try.func14, Try.ntmps14
    go_wp2
    go_ret2
    exact ⟨t, 0, 2, rfl, Stp.refl H.out HI.out, .inr ⟨Num.refl t, Ev.refl hK t, rfl, .inl ⟨rfl, HX.out⟩⟩⟩
  | some x =>
    rw [hx] at hlk
    have HX := Lib.hid hx
    simp only [pgP, Option.map_some] at hlk
    have p1 := (h.pg id x hx).c1
    have p2 := (h.pg id x hx).c2
    have p3 := (h.pg id x hx).c3
    have p4 := (h.pg id x hx).c4
    have lX := (h.pg id x hx).lt
    have hpz := hd x hx
    · have HA : Hid (∀ g : Up w, Calls Try.prog 27 #[.pointer (some ⟨d.Q, 0, none⟩), .pointer (some ⟨g.world.heap.size, 0, none⟩)] (g.world.alloc (.cells #[.slice none 0 0, .int .i64 x.at_.1, .int .i64 x.at_.2, .bool x.put, .bool x.zero, .int .i64 0] 74)) (CpAdd M P w d t id)) := Lib.hid fun g => (mk_done hK h hi h0 hn x.at_ x.put x.zero g.h (fun e1 e2 => (hi.put id x hx e1).2 e2) hpz).mono fun e w' hm => cp_of_mk hK h hi hx hpz hm
      have hpz2 : x.put = true ∨ (x.put = false ∧ x.zero = true) := by
        rcases hpz with e | e
        · exact .inl e
        · cases hp : x.put with
          | true => exact .inl rfl
          | false => exact .inr ⟨rfl, e⟩
      clear h hi h0 hx hrd hd hpz
      go_enter Try.func14, Try.ntmps14
      rcases hpz2 with hp | ⟨hp, hz⟩
      · rw [hp] at p3 HA
        clear hp
        go_upto_region 5 with (fail)
        go_region_law (go_simp; go_at_call 27; refine (HA.out ⟨w.drew, (Below.refl _ _).drew⟩).mono ?_; rintro e w1 ⟨r, rfl, hq⟩; have HQ := Lib.hid hq; clear hq)
        all_goals
          go_wp2
          go_ret2
          exact HQ.out
      · rw [hp] at p3 HA
        rw [hz] at p4 HA
        clear hp hz
        go_upto_region 5 with (fail)
        go_region_law (go_simp; go_at_call 27; refine (HA.out ⟨w.drew, (Below.refl _ _).drew⟩).mono ?_; rintro e w1 ⟨r, rfl, hq⟩; have HQ := Lib.hid hq; clear hq)
        all_goals
          go_wp2
          go_ret2
          exact HQ.out
end
end Go.Proofs.Ytmipngefpedfpaa
