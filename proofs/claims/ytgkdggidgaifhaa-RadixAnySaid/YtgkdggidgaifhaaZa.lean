/- The shelf of almanaclaw11: a sink. Get. -/
import Derived.Test.YtgkdggidgaifhaaOe
namespace Go.Proofs.Ytgkdggidgaifhaa
open Go.RowKit
set_option linter.unusedVariables false
set_option linter.unusedSimpArgs false

structure ShS where
  L : List Bytes
  bad : Int
  other : Bytes
  full : Int
  gets : Int
def shK : SnkF ShS where
  get s a :=
    if a.1 < 1 ∨ (s.L.length : Int) < a.1 then ({ s with gets := inc64 s.gets }, [], 20)
    else if a.2 ≠ 13 + ((s.L.getD (a.1 - 1).toNat []).length : Int) then ({ s with gets := inc64 s.gets }, [], 20)
    else ({ s with gets := inc64 s.gets }, if s.bad = a.1 - 1 then s.other else s.L.getD (a.1 - 1).toNat [], 0)
  put s b := if s.full = 0 then (s, (0, 0), 7) else ({ s with L := s.L ++ [b], full := if 0 < s.full then s.full - 1 else s.full }, ((s.L.length : Int) + 1, 13 + (b.length : Int)), 0)
  Rdy s n := s.L.length + n ≤ 2147483647 ∧ (∀ b ∈ s.L, b.length ≤ 1000000) ∧ s.other.length ≤ 1000000 ∧ s.full < 9223372036854775808
theorem shK_good : shK.Good where
  mono s n m h hm := ⟨by have := h.1; omega, h.2⟩
  getR s a n h := by
    simp only [shK]
    split
    · exact h
    · split <;> exact h
  putR s b n h hb := by
    simp only [shK]
    split
    · exact ⟨by have := h.1; show s.L.length + n ≤ _; omega, h.2⟩
    · refine ⟨by have := h.1; simp; omega, fun x hx => ?_, h.2.2.1, ?_⟩
      · rcases List.mem_append.1 hx with hx | hx
        · exact h.2.1 x hx
        · rw [List.mem_singleton.1 hx]; omega
      · have := h.2.2.2
        simp only
        split <;> omega
  getB s a h h0 := by
    simp only [shK] at h0
    have h1 := h.1
    split at h0
    · simp at h0
    · rename_i g1
      split at h0
      · simp at h0
      · rename_i g2
        have h3 : (s.L.getD (a.1 - 1).toNat []).length ≤ 1000000 := by
          rw [List.getD_eq_getElem?_getD]
          cases hx : s.L[(a.1 - 1).toNat]? with
          | none => simp
          | some b => exact h.2.1 b (List.mem_of_getElem? hx)
        unfold Bd
        omega
  putB s b h hb h0 := by
    simp only [shK] at h0 ⊢
    split at h0
    · simp at h0
    · rename_i g1
      have h1 := h.1
      rw [if_neg g1]
      unfold Bd
      simp only
      omega
structure ShIn (w : World) (S : Nat) (rv : Value) (vs : List Value) (ov : Value) (s : ShS) : Prop where
  c0 : w.cell? ⟨S, 0, none⟩ = some rv
  c1 : w.cell? ⟨S, 1, none⟩ = some (.int .i64 s.bad)
  c2 : w.cell? ⟨S, 2, none⟩ = some ov
  c3 : w.cell? ⟨S, 3, none⟩ = some (.int .i64 s.full)
  c4 : w.cell? ⟨S, 4, none⟩ = some (.int .i64 s.gets)
  fr : ∀ k, w.frozen? ⟨S, k, none⟩ = false
  row : w.ownsRow 0 38 1 rv vs.length vs
  len : vs.length = s.L.length
  it : ∀ (i : Nat) v b, vs[i]? = some v → s.L[i]? = some b → SlB w v b
  ot : SlB w ov s.other
  neR : rv.ownBlock ≠ some S
  neI : ∀ v ∈ vs, VIn (fun b => b ≠ S ∧ rv.ownBlock ≠ some b) v
  neO : VIn (fun b => b ≠ S ∧ rv.ownBlock ≠ some b) ov
  sz : shK.Rdy s 0
  big : ∀ k, 5 ≤ k → w.cell? ⟨S, k, none⟩ = none
def ShAt (S : Nat) (w : World) (O : Nat → Prop) (s : ShS) : Prop :=
  ∃ rv vs ov, ShIn w S rv vs ov s ∧ O S ∧ (∀ g, rv.ownBlock = some g → O g) ∧ (∀ v ∈ vs, VIn O v) ∧ VIn O ov ∧ ∀ k, O k → k < w.heap.size
theorem row_off {S : Nat → Prop} {w w' : World} {v : Value} {t : TypeId} {n : Nat} {xs : List Value} (h : w.ownsRow 0 t 1 v n xs) (ho : Off S w w') (hs : ∀ g, v.ownBlock = some g → ¬ S g) : w'.ownsRow 0 t 1 v n xs := by
  refine ⟨h.1, ?_⟩
  rcases h.2 with hn | ⟨g, cap, cur, rfl, hb, hgg, rest⟩
  · exact .inl hn
  · exact .inr ⟨g, cap, cur, rfl, hb, (ho.block g (Array.getElem?_eq_some_iff.1 hgg).1 (hs g rfl)).trans hgg, rest⟩
section
variable {w w' : World} {S : Nat} {rv ov : Value} {vs : List Value} {s : ShS} {O P : Nat → Prop}
/-- No bytes lie in the shelf's own block. -/
theorem ShIn.noBy (h : ShIn w S rv vs ov s) {v : Value} {L : Bytes} (hv : SlB w v L) : VIn (fun b => ¬ b = S) v := by
  intro b o n c e h0 hb
  subst hb
  obtain ⟨A, n', c', rfl, h1, h2⟩ := hv
  cases e
  obtain ⟨b', o', e', hlt, hc⟩ := h2.2 h0
  cases e'
  have h3 := hc 0 h0
  rw [Nat.add_zero] at h3
  obtain ⟨A2, n2, c2, e2, _⟩ := h.ot
  have hrv : ∃ A3 n3 c3, rv = .slice A3 n3 c3 := by
    rcases h.row.2 with ⟨rfl, _⟩ | ⟨g, cap, cur, rfl, _⟩
    · exact ⟨_, _, _, rfl⟩
    · exact ⟨_, _, _, rfl⟩
  obtain ⟨A3, n3, c3, e3⟩ := hrv
  rcases Nat.lt_or_ge o 5 with ho | ho
  · have hcs : o = 0 ∨ o = 1 ∨ o = 2 ∨ o = 3 ∨ o = 4 := by omega
    rcases hcs with rfl | rfl | rfl | rfl | rfl
    · rw [h.c0, e3] at h3; cases h3
    · rw [h.c1] at h3; cases h3
    · rw [h.c2, e2] at h3; cases h3
    · rw [h.c3] at h3; cases h3
    · rw [h.c4] at h3; cases h3
  · rw [h.big o ho] at h3; cases h3
theorem ShIn.lt (h : ShIn w S rv vs ov s) : S < w.heap.size := lt_of_cell h.c0
theorem ShIn.off (h : ShIn w S rv vs ov s) (ho : Off P w w') (h1 : ¬ P S) (h2 : ∀ g, rv.ownBlock = some g → ¬ P g) (h3 : ∀ v ∈ vs, VIn (fun b => ¬ P b) v) (h4 : VIn (fun b => ¬ P b) ov) : ShIn w' S rv vs ov s :=
  ⟨(ho.cell (p := ⟨S, 0, none⟩) h.lt h1).trans h.c0, (ho.cell (p := ⟨S, 1, none⟩) h.lt h1).trans h.c1, (ho.cell (p := ⟨S, 2, none⟩) h.lt h1).trans h.c2, (ho.cell (p := ⟨S, 3, none⟩) h.lt h1).trans h.c3, (ho.cell (p := ⟨S, 4, none⟩) h.lt h1).trans h.c4,
    fun k => (ho.frozen (p := ⟨S, k, none⟩) h.lt h1).trans (h.fr k), row_off h.row ho h2, h.len, fun i v b e1 e2 => (h.it i v b e1 e2).offP ho (h3 v (List.mem_of_getElem? e1)), h.ot.offP ho h4, h.neR, h.neI, h.neO, h.sz, fun k hk => (ho.cell (p := ⟨S, k, none⟩) h.lt h1).trans (h.big k hk)⟩
theorem ShIn.up (h : ShIn w S rv vs ov s) (hb : Below w.heap.size w w') : ShIn w' S rv vs ov s := h.off (P := fun _ => False) (Off.of_below hb) id (fun _ _ => id) (fun _ _ _ _ _ _ _ _ => id) (fun _ _ _ _ _ _ => id)
theorem ShAt.off (h : ShAt S w O s) (ho : Off P w w') (hs : ∀ k, P k → ¬ O k) : ShAt S w' O s := by
  obtain ⟨rv, vs, ov, h1, h2, h3, h4, h5, h6⟩ := h
  exact ⟨rv, vs, ov, h1.off ho (fun e => hs _ e h2) (fun g hg e => hs _ e (h3 g hg)) (fun v hv => (h4 v hv).mono fun b hb e => hs _ e hb) (h5.mono fun b hb e => hs _ e hb), h2, h3, h4, h5, fun k hk => Nat.lt_of_lt_of_le (h6 k hk) ho.size⟩
theorem ShAt.lt {k : Nat} (h : ShAt S w O s) (hk : O k) : k < w.heap.size := by
  obtain ⟨rv, vs, ov, h1, h2, h3, h4, h5, h6⟩ := h
  exact h6 k hk
theorem ShIn.setGets (h : ShIn w S rv vs ov s) (x : Int) : ShIn (w.setCell ⟨S, 4, none⟩ (.int .i64 x)) S rv vs ov { s with gets := x } := by
  have ho : Off (· = S) w (w.setCell ⟨S, 4, none⟩ (.int .i64 x)) := (Off.refl (· = S) w).setCell (p := ⟨S, 4, none⟩) rfl _
  have oc : ∀ k, k ≠ 4 → (w.setCell ⟨S, 4, none⟩ (.int .i64 x)).cell? ⟨S, k, none⟩ = w.cell? ⟨S, k, none⟩ := fun k hk => World.cell?_setCell_other _ _ _ _ (fun e => by injection e with _ e2; omega)
  exact ⟨(oc 0 (by omega)).trans h.c0, (oc 1 (by omega)).trans h.c1, (oc 2 (by omega)).trans h.c2, (oc 3 (by omega)).trans h.c3, World.cell?_setCell_same _ _ _ h.c4, fun k => (World.frozen?_setCell _ _ _ _).trans (h.fr k),
    row_off h.row ho (fun g hg e => h.neR (by rw [hg, e])), h.len, fun i v b e1 e2 => (h.it i v b e1 e2).offP ho ((h.neI v (List.mem_of_getElem? e1)).mono fun b hb => hb.1), h.ot.offP ho (h.neO.mono fun b hb => hb.1), h.neR, h.neI, h.neO, h.sz, fun k hk => (oc k (by omega)).trans (h.big k hk)⟩
end
theorem shGet_none {S : Nat} {w w' : World} {O : Nat → Prop} {s : ShS} {a : Int × Int} {s' : ShS} (h : shK.get s a = (s', [], 20)) (h1 : ShAt S w' O s') (h2 : Off O w w') : GePost (ShAt S) shK w O s a (.returned (.tuple #[.slice none 0 0, .int .i64 20])) w' := by
  unfold GePost
  rw [h]
  exact ⟨_, rfl, h1, h2, ⟨none, 0, 0, rfl, Nat.le_refl _, SBy.nil _ _, fun a e => (by cases e)⟩, fun b o n c e => (by cases e), by simp⟩
theorem shGet_some {S : Nat} {w w' : World} {O : Nat → Prop} {s : ShS} {a : Int × Int} {s' : ShS} {L : Bytes} {v : Value} (h : shK.get s a = (s', L, 0)) (h1 : ShAt S w' O s') (h2 : Off O w w') (h3 : SlA w' v L) (h4 : ∀ b o n c, v = .slice (some ⟨b, o, none⟩) n c → w.heap.size ≤ b) (h5 : L.length ≤ 2 ^ 40) :
    GePost (ShAt S) shK w O s a (.returned (.tuple #[v, .int .i64 0])) w' := by
  unfold GePost
  rw [h]
  exact ⟨_, rfl, h1, h2, h3, h4, h5⟩
set_option maxRecDepth 100000 in
set_option maxHeartbeats 4000000 in
theorem shGet_any {S : Nat} {w : World} {O : Nat → Prop} {s : ShS} (a : Int × Int) (h : ShAt S w O s) : Calls Try.prog 108 #[.pointer (some ⟨S, 0, none⟩), addrV a] w (GePost (ShAt S) shK w O s a) := by
  obtain ⟨rv, vs, ov, h1, h2, h3, h4, h5, h6⟩ := h
  obtain ⟨a0, a1⟩ := a
  obtain ⟨Ar, cr, hrv⟩ : ∃ Ar cr, rv = .slice Ar vs.length cr := by
    rcases h1.row.2 with ⟨rfl, h0⟩ | ⟨g, cap, cur, rfl, _⟩
    · exact ⟨_, _, by rw [h0]⟩
    · exact ⟨_, _, rfl⟩
  have hlen := h1.len
  have HI := Lib.hid h1
  have HS := Lib.hid h2
  have H3 := Lib.hid h3
  have H4 := Lib.hid h4
  have H5 := Lib.hid h5
  have H6 := Lib.hid h6
  have q4 := h1.c4
  have f4 := h1.fr 4
  have lS := h1.lt
  clear h1 h2 h3 h4 h5 h6
  unfold addrV
  go_enter Try.func108, Try.ntmps108
  go_upto_region 2 with (fail)
  refine wp_forget (fun V => ShIn V S rv vs ov { s with gets := inc64 s.gets } ∧ BoxA V w.heap.size (a0, a1) ∧ Off O w V) ?_ ?_
  · have hal := fun (W : World) (o : Obj) => (Below.refl W.heap.size W).alloc (Nat.le_refl _) o
    have e1 : (w.setCell ⟨S, 4, none⟩ (.int .i64 (wrap64 (s.gets + 1)))).heap.size = w.heap.size := by simp
    have hb := BoxA.new (w.setCell ⟨S, 4, none⟩ (.int .i64 (wrap64 (s.gets + 1)))) 30 (a0, a1)
    rw [e1] at hb
    exact ⟨(HI.out.setGets (inc64 s.gets)).up (hal _ _), hb, ((Off.refl O w).setCell (p := ⟨S, 4, none⟩) HS.out _).step (hal _ _)⟩
  rintro V ⟨hi, hb, ho⟩
  have HI2 := Lib.hid hi
  have HO := Lib.hid ho
  have HAT : Hid (∀ W, Below V.heap.size V W → ShAt S W O { s with gets := inc64 s.gets } ∧ Off O w W) := Lib.hid (fun W hbb => ⟨⟨rv, vs, ov, hi.up hbb, HS.out, H3.out, H4.out, H5.out, fun k hk => Nat.lt_of_lt_of_le (H6.out k hk) (Nat.le_trans ho.size hbb.size)⟩, ho.step hbb⟩)
  have b0 := hb.1
  have b1 := hb.2.1
  simp only at b0 b1
  have lB := hb.lt
  have q0 := hi.c0
  have q1 := hi.c1
  have q2 := hi.c2
  have lS2 := hi.lt
  rw [hrv] at q0
  have HRV := Lib.hid hrv
  have hsz := hi.sz
  have HSZ := Lib.hid hsz
  have hL31 := hsz.1
  simp only at hL31
  clear hi hb ho q4 f4 HI hrv hsz
  have HG : Hid (shK.get s (a0, a1) = if a0 < 1 ∨ (s.L.length : Int) < a0 then ({ s with gets := inc64 s.gets }, [], 20)
    else if a1 ≠ 13 + ((s.L.getD (a0 - 1).toNat []).length : Int) then ({ s with gets := inc64 s.gets }, [], 20)
    else ({ s with gets := inc64 s.gets }, if s.bad = a0 - 1 then s.other else s.L.getD (a0 - 1).toNat [], 0)) := Lib.hid rfl
  rw [← hlen] at HG hL31
  have HLEN := Lib.hid hlen
  clear hlen
  by_cases g1 : a0 < 1
  · have hg := HG.out
    rw [if_pos (.inl g1)] at hg
    have HG2 := Lib.hid hg
    clear hg HG
    refine wp_region_up (by kernel_rfl) (by kernel_rfl) ?_
    repeat (go_big_quiet_step (fail))
    refine wpQuiet_nil ?_
    rintro _ ⟨g, rfl⟩
    go_wp2
    go_ret2
    exact shGet_none HG2.out (HAT.out _ g.h).1 (HAT.out _ g.h).2
  by_cases g2 : (vs.length : Int) < a0
  · have hg := HG.out
    rw [if_pos (.inr g2)] at hg
    have HG2 := Lib.hid hg
    clear hg HG
    refine wp_region_up (by kernel_rfl) (by kernel_rfl) ?_
    repeat (go_big_quiet_step (fail))
    refine wpQuiet_nil ?_
    rintro _ ⟨g, rfl⟩
    go_wp2
    go_ret2
    exact shGet_none HG2.out (HAT.out _ g.h).1 (HAT.out _ g.h).2
  obtain ⟨j, hj⟩ : ∃ j : Nat, a0 = (j : Int) + 1 := ⟨(a0 - 1).toNat, by omega⟩
  subst hj
  have hjl : j < vs.length := by omega
  obtain ⟨vj, hvj⟩ : ∃ v, vs[j]? = some v := ⟨_, List.getElem?_eq_getElem hjl⟩
  obtain ⟨bj, hbj⟩ : ∃ b, s.L[j]? = some b := ⟨_, List.getElem?_eq_getElem (by rw [← HLEN.out]; exact hjl)⟩
  obtain ⟨Aj, nj, cj, rfl, hcj, hsj⟩ := HI2.out.it j _ _ hvj hbj
  obtain ⟨gr, hgr⟩ : ∃ gr, Ar = some ⟨gr, 0, none⟩ := by
    rcases HI2.out.row.2 with ⟨e, h0⟩ | ⟨g, cap, cur, e, _⟩
    · rw [h0] at hjl; simp at hjl
    · rw [HRV.out] at e
      cases e
      exact ⟨_, rfl⟩
  subst hgr
  have ck := World.ownsRow.cells HI2.out.row (g := gr) (by rw [HRV.out]; rfl) j _ hvj
  rw [show (⟨gr, 0, none⟩ : Addr).add j = ⟨gr, j, none⟩ by unfold Addr.add; split <;> simp_all] at ck
  have lG : gr < V.heap.size := lt_of_cell ck
  have hlj := hsj.1
  have hg := HG.out
  rw [if_neg (by omega), show ((j : Int) + 1 - 1).toNat = j by omega, show ((j : Int) + 1 - 1) = (j : Int) by omega, List.getD_eq_getElem?_getD, hbj] at hg
  simp only [Option.getD_some, hlj] at hg
  have HG2 := Lib.hid hg
  have HSJ := Lib.hid hsj
  have hw1 : IntKind.i64.wrap ((j : Int) + 1 - 1) = (j : Int) := by
    rw [show (j : Int) + 1 - 1 = (j : Int) by omega]
    exact IntWalk.i64_in _ (by omega)
  have hnj : nj ≤ 1000000 := by
    rw [← hlj]
    exact HSZ.out.2.1 _ (List.mem_of_getElem? hbj)
  have hjI : (j : Int) < (vs.length : Int) := by omega
  have k1 : decide ((j : Int) + 1 < 1) = false := by simp; omega
  have k2 : decide ((vs.length : Int) < (j : Int) + 1) = false := by simp; omega
  clear hg HG hsj hlj hvj hbj
  refine wp_region_up (by kernel_rfl) (by kernel_rfl) ?_
  repeat (go_big_quiet_step (fail))
  refine wpQuiet_nil ?_
  rintro _ ⟨g, rfl⟩
  go_upto_region 4 with (fail)
  refine wp_region_upW (by kernel_rfl) (by kernel_rfl) ?_
  repeat (go_big_quiet_step (fail))
  refine wpQuiet_nil ?_
  rintro _ ⟨g2, rfl⟩
  go_upto_region 5 with (fail)
  refine wp_region_upW (by kernel_rfl) (by kernel_rfl) ?_
  repeat (go_big_quiet_step (fail))
  refine wpQuiet_nil ?_
  rintro _ ⟨g3, rfl⟩
  obtain ⟨Ao, no, co, hov, _, hso⟩ := HI2.out.ot
  rw [hov] at q2
  have HSO := Lib.hid hso
  have HOV := Lib.hid hov
  clear hso hov
  obtain ⟨Ax, nx, cx, Lx, hx⟩ : ∃ Ax nx cx, ∃ Lx : Bytes, (if s.bad = (j : Int) then Value.slice Ao no co else .slice Aj nj cj) = .slice Ax nx cx ∧ SBy V Ax nx Lx ∧ nx ≤ 1000000 ∧ (if s.bad = (j : Int) then s.other else bj) = Lx := by
    by_cases h : s.bad = (j : Int)
    · rw [if_pos h, if_pos h]
      exact ⟨_, _, _, _, rfl, HSO.out, by rw [← HSO.out.1]; exact HSZ.out.2.2.1, rfl⟩
    · rw [if_neg h, if_neg h]
      exact ⟨_, _, _, _, rfl, HSJ.out, hnj, rfl⟩
  obtain ⟨x1, x2, x3, x4⟩ := hx
  have HX2 := Lib.hid x2
  have HX1 := Lib.hid x1
  have HX4 := Lib.hid x4
  clear x1 x2 x4
  go_upto_if 43 with (fail)
  go_cut [6] from 43 to 47 (fun s6 wc => s6 = .slice Ax nx cx ∧ wc = g3.world)
  case first =>
    have x1 := HX1.out
    by_cases h : s.bad = (j : Int)
    · rw [if_pos h] at x1
      have HX := Lib.hid x1
      have hb := beq_iff_eq.2 h
      clear h x1 HX1
      go_wp2_with fail
      go_meet
      exact ⟨HX.out, rfl⟩
    · rw [if_neg h] at x1
      have HX := Lib.hid x1
      have hb : (s.bad == (j : Int)) = false := by simp [h]
      clear h x1 HX1
      go_wp2_with fail
      go_meet
      exact ⟨HX.out, rfl⟩
  case rest =>
  obtain ⟨rfl, rfl⟩ := hcut
  go_upto_region 7 with (fail)
  refine wp_region_upW (by kernel_rfl) (by kernel_rfl) ?_
  repeat (go_big_quiet_step (fail))
  refine wpQuiet_nil ?_
  rintro _ ⟨g4, rfl⟩
  by_cases h : a1 = 13 + (nj : Int)
  case neg =>
    have hb : (a1 != 13 + (nj : Int)) = true := by simp [h]
    have hg := HG2.out
    rw [if_pos h] at hg
    have HG3 := Lib.hid hg
    clear hg HG2 h
    go_wp2
    go_ret2
    exact shGet_none HG3.out (HAT.out _ g4.h).1 (HAT.out _ g4.h).2
  have hb : (a1 != 13 + (nj : Int)) = false := by simp [h]
  have hg := HG2.out
  rw [if_neg (fun e => e h), HX4.out] at hg
  have HG3 := Lib.hid hg
  clear hg HG2 h
  go_upto_region 9 with (fail)
  refine wp_forget (fun W => Below V.heap.size V W) g4.h ?_
  intro W1 hb1
  have HB1 := Lib.hid hb1
  have HSX := Lib.hid (HX2.out.off (S := fun _ => False) (Off.of_below hb1) (fun _ _ _ => id))
  clear hb1
  go_wp2_with (at_builtin; go_must (refine wpList_appF rfl (.tmp 62) (.tmp 63) rfl W1 (.slice (some ⟨W1.heap.size, 0, none⟩) 0 0) [] Lx rfl (FrB.lit W1) Ax nx cx rfl (HSX.out.alloc _) (by simp; omega) nx (by simp) ?_); intro A' c' w1 h1 hgg)
  have H1 := Lib.hid h1
  clear h1 hgg
  go_wp2
  go_ret2
  have hf := H1.out
  have hs := hf.slA
  exact shGet_some HG3.out (HAT.out _ (HB1.out.trans (hf.bel.mono HB1.out.size))).1 (HAT.out _ (HB1.out.trans (hf.bel.mono HB1.out.size))).2 (by simpa using hs.1) (fun b o n c e => Nat.le_trans (Nat.le_trans HO.out.size HB1.out.size) (hs.2 b o n c e)) (by rw [HX2.out.1]; omega)
end Go.Proofs.Ytgkdggidgaifhaa
