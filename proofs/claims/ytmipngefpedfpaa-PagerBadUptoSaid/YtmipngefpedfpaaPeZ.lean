/- A pager: save, walked. -/
import Derived.Test.YtmipngefpedfpaaPdZ
namespace Go.Proofs.Ytmipngefpedfpaa
open Go.RowKit Go.Maps
set_option linter.unusedVariables false
set_option linter.unusedSimpArgs false

section
variable {σ : Type} {K : SnkF σ} {M : Snk K} {P : PSnk K} {w w' w1 w2 : World} {d : PD} {t t' t1 t2 : PSt σ} {id : Int} {x : Pg}
theorem ByAt.slA {z B c : Nat} {L : Bytes} (h : ByAt w z B c L) : SlA w (.slice (some ⟨B, 0, none⟩) z c) L := ⟨_, _, _, rfl, h.cap, h.sby, adr_some⟩
/-- One cell of a page's block is stored. -/
theorem PgAt.set {z k : Nat} {v : Value} {x' : Pg} (h : PgAt w z x) (hX : x'.X = x.X) (e0 : x'.bv = if k = 0 then v else x.bv) (e1 : Value.int .i64 x'.at_.1 = if k = 1 then v else .int .i64 x.at_.1) (e2 : Value.int .i64 x'.at_.2 = if k = 2 then v else .int .i64 x.at_.2)
    (e3 : Value.bool x'.put = if k = 3 then v else .bool x.put) (e4 : Value.bool x'.zero = if k = 4 then v else .bool x.zero) (e5 : Value.int .i64 x'.uses = if k = 5 then v else .int .i64 x.uses)
    (hb : ∀ B c L, x'.bb = some (B, c, L) → ByAt (w.setCell ⟨x.X, k, none⟩ v) z B c L) : PgAt (w.setCell ⟨x.X, k, none⟩ v) z x' := by
  have ck : ∀ j a b, w.cell? ⟨x.X, j, none⟩ = some a → (b = if k = j then v else a) → (w.setCell ⟨x.X, k, none⟩ v).cell? ⟨x'.X, j, none⟩ = some b := fun j a b ha hb => by
    rw [hX, hb]
    by_cases hk : k = j
    · rw [if_pos hk, hk]
      exact World.cell?_setCell_same _ _ _ ha
    · rw [if_neg hk, World.cell?_setCell_other _ _ _ _ (fun e => by injection e with _ e2; omega)]
      exact ha
  exact ⟨ck 0 _ _ h.c0 e0, ck 1 _ _ h.c1 e1, ck 2 _ _ h.c2 e2, ck 3 _ _ h.c3 e3, ck 4 _ _ h.c4 e4, ck 5 _ _ h.c5 e5, fun j => by rw [hX, World.frozen?_setCell]; exact h.fz j, hb⟩
theorem PgAt.bsX {z k : Nat} {v : Value} (h : PgAt w z x) (hz : 16 ≤ z) {B c : Nat} {L : Bytes} (e : x.bb = some (B, c, L)) : ByAt (w.setCell ⟨x.X, k, none⟩ v) z B c L :=
  (h.bs B c L e).off hz ((Off.refl (· = x.X) w).setCell (p := ⟨x.X, k, none⟩) rfl v) (h.self hz e)
theorem PgAt.setAt {z : Nat} (h : PgAt w z x) (hz : 16 ≤ z) (a : Int × Int) : PgAt (((w.setCell ⟨x.X, 1, none⟩ (.int .i64 a.1)).setCell ⟨x.X, 2, none⟩ (.int .i64 a.2)).setCell ⟨x.X, 3, none⟩ (.bool true)) z { x with at_ := a, put := true } ∧ Off x.blk w (((w.setCell ⟨x.X, 1, none⟩ (.int .i64 a.1)).setCell ⟨x.X, 2, none⟩ (.int .i64 a.2)).setCell ⟨x.X, 3, none⟩ (.bool true)) := by
  have h1 := h.set (k := 1) (v := .int .i64 a.1) (x' := { x with at_ := (a.1, x.at_.2) }) rfl rfl rfl rfl rfl rfl rfl (fun B c L e => h.bsX hz e)
  have h2 := h1.set (k := 2) (v := .int .i64 a.2) (x' := { x with at_ := a }) rfl rfl rfl rfl rfl rfl rfl (fun B c L e => h1.bsX hz e)
  have h3 := h2.set (k := 3) (v := .bool true) (x' := { x with at_ := a, put := true }) rfl rfl rfl rfl rfl rfl rfl (fun B c L e => h2.bsX hz e)
  exact ⟨h3, (((Off.refl x.blk w).setCell (p := ⟨x.X, 1, none⟩) (.inl rfl) _).setCell (p := ⟨x.X, 2, none⟩) (.inl rfl) _).setCell (p := ⟨x.X, 3, none⟩) (.inl rfl) _⟩
set_option maxRecDepth 100000 in
set_option maxHeartbeats 4000000 in
theorem save_any (hK : K.Good) (hmi : P.Miss) (h : PgrAt M w d t) (hi : PI P d t) (hx : t.pm id = some x) (hrd : K.Rdy t.s 1) :
    Calls Try.prog 37 #[.pointer (some ⟨d.Q, 0, none⟩), .pointer (some ⟨x.X, 0, none⟩)] w (SvPost (M := M) P w d t id x) := by
  have H := Lib.hid h
  have HI := Lib.hid hi
  have HX := Lib.hid hx
  obtain ⟨hz1, hz2⟩ := h.zs
  have p3 := (h.pg id x hx).c3
  have HRD := Lib.hid hrd
  have HPK := Lib.hid (peek_any hK hmi h hx hi.inn)
  cases hp : x.put with
  | true =>
    rw [hp] at p3
    have HP := Lib.hid hp
    clear h hi hx hrd hp
    go_enter Try.func37, Try.ntmps37
    go_wp2
    go_ret
    exact sv_has hK H.out HI.out HX.out HP.out
  | false =>
    rw [hp] at p3
    have HP := Lib.hid hp
    clear h hi hx hrd hp
    go_enter Try.func37, Try.ntmps37
    go_wp2_with fail
    refine HPK.out.mono ?_
    rintro e w1 ⟨s1, v, er, rfl, h1, ho, hs, ⟨L, hc, hl, rfl, B, c, rfl, hby, hB⟩ | ⟨hc, hbb, hz, rfl, rfl⟩⟩
    case inr => exact absurd hbb (HI.out.dty id x HX.out HP.out hz)
    have H1 := Lib.hid h1
    have HO := Lib.hid ho
    have HS := Lib.hid hs
    have HC := Lib.hid hc
    have HL := Lib.hid (show L.length ≤ 5000 by omega)
    have HPU := Lib.hid (M.put h1.at_ (hs.rdy 1 HRD.out) hby.slA (by omega))
    have HPG := Lib.hid (h1.pg id x HX.out)
    have q3 := h1.q3
    have nP := M.nilP
    have mP := M.metP
    have eP := M.entP
    have HFF := Lib.hid (P.full s1 L hs.inn)
    clear h1 ho hs hc hl hby p3 HPK
    go_wp2_with fail
    refine HPU.out.mono ?_
    rintro e w2 ⟨O', he, hA, hof, hO⟩
    unfold addrV at he
    subst he
    have HA := Lib.hid hA
    have HOF := Lib.hid hof
    have HO2 := Lib.hid hO
    have hsz := hof.size
    have lX : x.X < w2.heap.size := Nat.lt_of_lt_of_le HPG.out.lt hsz
    clear hA hof hO q3 nP mP eP HPU
    by_cases hr : P.room s1 = 0
    · obtain ⟨e1, e2⟩ := HFF.out hr
      have HR := Lib.hid hr
      have he0 := P.ez0
      have HG : Hid (∀ W, Below w2.heap.size w2 W → SvPost (M := M) P w d t id x (.returned (.int .i64 P.ez)) W) := Lib.hid fun W hb => sv_full HI.out H1.out HO.out HS.out hr (b := L) (O' := O') rfl (M.off HA.out (Off.of_below (S := fun _ => False) hb) (fun _ h => h.elim)) (HOF.out.step hb) HO2.out e2 hK
      rw [e1]
      have HE := Lib.hid e1
      clear e1 e2 hr HFF HA
      generalize (K.put s1 L).2.1 = a
      go_upto_region 7 with (fail)
      refine wp_forget (fun W => Below w2.heap.size w2 W) (by go_grown) ?_
      intro W hb
      have HB := Lib.hid hb
      clear hb
      go_wp2
      go_ret
      exact HG.out _ HB.out
    · obtain ⟨e1, _⟩ := P.put s1 L HS.out.inn (HS.out.rdy _ HRD.out) HL.out hr
      have HTK : Hid (∀ W W', M.At W O' (K.put s1 L).1 → Off t.O w1 W → PgAt W' d.z { x with at_ := (K.put s1 L).2.1, put := true } → Off x.blk W W' → SvPost (M := M) P w d t id x (.returned (.int .i64 0)) W') := Lib.hid fun W W' a1 a2 a3 a4 => sv_took hK HI.out HX.out HP.out H1.out HO.out HS.out hr HRD.out HC.out HL.out a1 a2 HO2.out a3 a4
      rw [e1]
      clear e1 hr HFF
      have HPG2 := Lib.hid (HPG.out.off hz1 HOF.out (fun k hk e => H1.out.nO k (.inr (.inr (.inr (.inr (.inr ⟨id, x, HX.out, hk⟩))))) e))
      generalize K.put s1 L = y at *
      obtain ⟨s2, ⟨a0, a1⟩, er⟩ := y
      simp only at HTK HA ⊢
      go_upto_region 7 with (fail)
      refine wp_forget (fun W => Below w2.heap.size w2 W ∧ BoxA W w2.heap.size (a0, a1)) ⟨by go_grown, ?_⟩ ?_
      · exact BoxA.new w2 _ (a0, a1)
      rintro W ⟨hb, hbx⟩
      have HB := Lib.hid hb
      have HBX := Lib.hid hbx
      have b0 := hbx.1
      have b1 := hbx.2.1
      have c1 := (HPG2.out.off hz1 (Off.of_below (S := fun _ => False) hb) (fun _ _ e => e)).c1
      have c2 := (HPG2.out.off hz1 (Off.of_below (S := fun _ => False) hb) (fun _ _ e => e)).c2
      have c3 := (HPG2.out.off hz1 (Off.of_below (S := fun _ => False) hb) (fun _ _ e => e)).c3
      have f1 := (HPG2.out.off hz1 (Off.of_below (S := fun _ => False) hb) (fun _ _ e => e)).fz 1
      have f2 := (HPG2.out.off hz1 (Off.of_below (S := fun _ => False) hb) (fun _ _ e => e)).fz 2
      have f3 := (HPG2.out.off hz1 (Off.of_below (S := fun _ => False) hb) (fun _ _ e => e)).fz 3
      have lX2 : x.X < W.heap.size := Nat.lt_of_lt_of_le lX hb.size
      clear hb hbx
      go_wp2
      go_ret
      obtain ⟨g1, g2⟩ := (HPG2.out.off hz1 (Off.of_below (S := fun _ => False) HB.out) (fun _ _ e => e)).setAt hz1 (a0, a1)
      exact HTK.out W _ (M.off HA.out (Off.of_below (S := fun _ => False) HB.out) (fun _ h => h.elim)) (HOF.out.step HB.out) g1 g2
end
end Go.Proofs.Ytmipngefpedfpaa
