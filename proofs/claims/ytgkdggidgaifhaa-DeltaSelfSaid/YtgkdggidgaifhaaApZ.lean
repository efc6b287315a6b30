/- delta: Apply. -/
import Derived.Test.YtgkdggidgaifhaaRwZ
import Derived.Test.YtgkdggidgaifhaaME
namespace Go.Proofs.Ytgkdggidgaifhaa
open Go.RowKit Go.Maps
set_option linter.unusedVariables false
set_option linter.unusedSimpArgs false

theorem chg_info : (Try.prog.info? 40).map (fun i => (i.zero, i.size, i.bytes)) = some (some (.agg #[.int .i64 0, .slice none 0 0, .slice none 0 0, .bool false, .bool false]), 5, 64) := by kernel_rfl
abbrev Tc := Chg × Value × Value
/-- A change in a row. -/
noncomputable def elC : ElG Tc where
  sl := 48
  el := 40
  i := Classical.choose (info_parts chg_info)
  z := .agg #[.int .i64 0, .slice none 0 0, .slice none 0 0, .bool false, .bool false]
  bytes := 64
  k := 5
  ht := Try.underlying48
  hi := (Classical.choose_spec (info_parts chg_info)).1
  hz := (Classical.choose_spec (info_parts chg_info)).2.1
  hsize := (Classical.choose_spec (info_parts chg_info)).2.2.1
  hby := (Classical.choose_spec (info_parts chg_info)).2.2.2
  hzs := rfl
  hk := by omega
  hb64 := by omega
  cells := fun x => [.int .i64 (x.1.1 : Nat), x.2.1, x.2.2, .bool x.1.2.1.isSome, .bool x.1.2.2.isSome]
  len := fun _ => rfl
  blk := fun x k => vblk x.2.1 k ∨ vblk x.2.2 k
  ok := fun w x => SlB w x.2.1 (x.1.2.1.getD []) ∧ SlB w x.2.2 (x.1.2.2.getD []) ∧ x.1.1 < 16777216 ∧ (x.1.2.1.getD []).length ≤ 256 ∧ (x.1.2.2.getD []).length ≤ 256
  one := fun {w x} h u hu => by
    obtain ⟨⟨a1, a2, a3, e1, _⟩, ⟨b1, b2, b3, e2, _⟩, _⟩ := h
    simp only [List.mem_cons, List.not_mem_nil, or_false] at hu
    rcases hu with rfl | rfl | rfl | rfl | rfl
    · simp [Value.oneCell']
    · rw [e1]; simp [Value.oneCell']
    · rw [e2]; simp [Value.oneCell']
    · simp [Value.oneCell']
    · simp [Value.oneCell']
  off := fun {S w w' x} h ho hs => ⟨h.1.offP ho (.of_blk fun k hk e => hs k e (.inl hk)), h.2.1.offP ho (.of_blk fun k hk e => hs k e (.inr hk)), h.2.2⟩
  lt := fun {w x b} h hb => hb.elim h.1.inl.blk h.2.1.inl.blk
def cfT (L : List Tc) (i : Nat) : Chg := ((L[i]?).map (·.1)).getD (0, none, none)
def apI (cf : Nat → Chg) (m : Mp) : Nat → Mp
  | 0 => m
  | j + 1 => upd (apI cf m j) (cf j).1 (cf j).2.2
open Classical in
theorem apI_at {m m' : Mp} {L : List Tc} (h : ∀ i, i < L.length → (cfT L i).2.2 = m' (cfT L i).1) : ∀ j, j ≤ L.length → ∀ k, apI (cfT L) m j k = if ∃ i, i < j ∧ (cfT L i).1 = k then m' k else m k
  | 0, _, k => by
    rw [if_neg]
    · rfl
    · rintro ⟨i, hi, _⟩; omega
  | j + 1, hj, k => by
    have ih := apI_at (m := m) (m' := m') h j (by omega) k
    show upd (apI (cfT L) m j) (cfT L j).1 (cfT L j).2.2 k = _
    by_cases e : k = (cfT L j).1
    · rw [e, upd_same, h j (by omega), if_pos ⟨j, by omega, rfl⟩]
    · rw [upd_other _ _ _ e, ih]
      have hiff : (∃ i, i < j ∧ (cfT L i).1 = k) ↔ ∃ i, i < j + 1 ∧ (cfT L i).1 = k := by
        constructor
        · rintro ⟨i, hi, he⟩; exact ⟨i, by omega, he⟩
        · rintro ⟨i, hi, he⟩
          rcases Nat.lt_or_ge i j with h1 | h1
          · exact ⟨i, h1, he⟩
          · obtain rfl : i = j := by omega
            exact absurd he.symm e
      by_cases hx : ∃ i, i < j ∧ (cfT L i).1 = k
      · rw [if_pos hx, if_pos (hiff.1 hx)]
      · rw [if_neg hx, if_neg (fun h => hx (hiff.2 h))]
/-- The changes, applied to the first map, make the second. -/
theorem apI_all {m m' : Mp} {L : List Tc} {cs : List Chg} (h : ChgIs m m' cs) (hL : L.map (·.1) = cs) : apI (cfT L) m L.length = m' := by
  have hcf : ∀ i, i < L.length → cfT L i ∈ cs := fun i hi => by
    unfold cfT
    rw [List.getElem?_eq_getElem hi, ← hL]
    exact List.mem_map_of_mem (List.getElem_mem hi)
  funext k
  rw [apI_at (m' := m') (fun i hi => by
    have h1 := hcf i hi
    generalize cfT L i = x at h1 ⊢
    obtain ⟨a, o, n⟩ := x
    exact ((h.mem a o n).1 h1).2.1) L.length (Nat.le_refl _) k]
  split
  · rfl
  · rename_i hn
    by_cases e : m k = m' k
    · exact e
    · exfalso
      have hm := (h.mem k (m k) (m' k)).2 ⟨rfl, rfl, e⟩
      rw [← hL] at hm
      obtain ⟨x, hx, hxe⟩ := List.mem_map.1 hm
      obtain ⟨i, hi, he⟩ := List.mem_iff_getElem.1 hx
      refine hn ⟨i, hi, ?_⟩
      unfold cfT
      rw [List.getElem?_eq_getElem hi, he]
      show (x.1).1 = k
      rw [hxe]
/-- Apply has answered. -/
structure ApOk (W w w' : World) (S T : Nat) (O O' : Nat → Prop) (st st' : ShS × Int) (r' : Int × Int) (m' : Mp) (N : Nat) : Prop where
  l : ShL W w' S T O' st'
  rdy : shK.Rdy st'.1 N
  full : st'.1.full < 0
  tells : TellsR (shRd st'.1.L) r' m'
  ev : StEv w w' T O O' st st'
def ApPost (W w : World) (S T : Nat) (O : Nat → Prop) (st : ShS × Int) (m' : Mp) (N : Nat) (Rx : Int × Int → Prop) (e : Ending) (w' : World) : Prop :=
  ∃ O' st' r', e = .returned (.tuple #[.agg #[.int .i64 (r' : Int × Int).1, .int .i64 r'.2], .int .i64 0]) ∧ Rx r' ∧ ApOk W w w' S T O O' st st' r' m' N
/-- A round of Apply: behind the Set or the Delete the root is laid anew. -/
theorem ap_next {W w wr V1 w3 : World} {S T g4 g6 n N : Nat} {O O1 O3 : Nat → Prop} {st st1 st3 : ShS × Int} {r1 r3 : Int × Int} {G : Rdr → Int × Int → Prop} {e : Ending} (hrt : RtAt W wr S T g4 O1 st1 r1) (hx : BoxA wr g6 (0, 0)) (ho : Out O1 T g6) (ev : StEv w wr T O O1 st st1) (hb : Below wr.heap.size wr V1) (k : SetOk W V1 w3 S T O1 O3 st1 st3 n N G r3 e) (hg : w.heap.size = g4 ∧ g6 = g4 + 1) :
    RtAt W ((w3.setCell ⟨g4, 0, none⟩ (.int .i64 r3.1)).setCell ⟨g4, 1, none⟩ (.int .i64 r3.2)) S T g4 O3 st3 r3 ∧ BoxA ((w3.setCell ⟨g4, 0, none⟩ (.int .i64 r3.1)).setCell ⟨g4, 1, none⟩ (.int .i64 r3.2)) g6 (0, 0) ∧ Out O3 T g6 ∧ StEv w ((w3.setCell ⟨g4, 0, none⟩ (.int .i64 r3.1)).setCell ⟨g4, 1, none⟩ (.int .i64 r3.2)) T O O3 st st3 := by
  have k1 := SetOk.rt hrt hb k
  have hst := (k1.box.set r3).2
  refine ⟨k1.root r3, ?_, out_next ho k.hO (Nat.lt_of_lt_of_le hx.lt hb.size), (ev.set hb k).own hst (fun k e => by rw [e]; omega)⟩
  exact ((hx.off (S := fun _ => False) (Off.of_below hb) id).off k.off (fun e => e.elim ho.1 ho.2)).off hst (by omega)
set_option maxRecDepth 100000 in
set_option maxHeartbeats 8000000 in
theorem apply_law {W w : World} {S T : Nat} {O : Nat → Prop} {st : ShS × Int} {r : Int × Int} {m : Mp} {A : Option Addr} {c N : Nat} {L : List Tc} (h : ShL W w S T O st) (hr : shK.Rdy st.1 (7 * L.length + N)) (hf : st.1.full < 0) (hm : TellsR (shRd st.1.L) r m) (hL : LgAt elC w A L) (hn : L.length ≤ 1048576) (hO : ∀ k, lgO elC A L k → ¬ OT O T k) :
    Calls Try.prog 16 #[.pointer (some ⟨T, 0, none⟩), .agg #[.int .i64 r.1, .int .i64 r.2], .slice A L.length c] w (ApPost W w S T O st (apI (cfT L) m L.length) N (fun r' => L = [] → r' = r)) := by
  obtain ⟨ra, rb⟩ := r
  have H := Lib.hid h
  have HR := Lib.hid hr
  have HF := Lib.hid hf
  have HM := Lib.hid hm
  have HL := Lib.hid hL
  have HO := Lib.hid hO
  have HOL := Lib.hid (fun k hk => (shM S).lt h.tr.at_ (k := k) hk)
  have hT := h.tr.lt
  have HWw := Lib.hid h.bel.size
  clear h hr hf hm hL hO
  go_enter Try.func16, Try.ntmps16
  go_upto_region 1 with (fail)
  refine wp_forget (fun V => Below w.heap.size w V ∧ BoxA V w.heap.size (ra, rb) ∧ BoxA V (w.heap.size + 1) (0, 0) ∧ V.heap.size = w.heap.size + 2) (two_boxesR w (ra, rb) (0, 0) _ _ _ rfl) ?_
  rintro V0 ⟨hb0, x4, x6, hs0⟩
  obtain ⟨g4, hg4⟩ : ∃ g, w.heap.size = g := ⟨_, rfl⟩
  obtain ⟨g6, hg6⟩ : ∃ g, w.heap.size + 1 = g := ⟨_, rfl⟩
  rw [hg4] at x4
  rw [hg6] at x6
  rw [hg6, hg4]
  have HG := Lib.hid (show w.heap.size = g4 ∧ g6 = g4 + 1 by omega)
  have h4 : RtAt W V0 S T g4 O st (ra, rb) := ⟨H.out.up hb0, x4, ⟨fun e => by have := HOL.out _ e; omega, by omega⟩, by have := HWw.out; omega⟩
  have H4 := Lib.hid h4
  have X6 := Lib.hid x6
  have HO6 : Hid (Out O T g6) := Lib.hid ⟨fun e => by have := HOL.out _ e; omega, by omega⟩
  have HEV := Lib.hid ((StEv.refl w T O st).up hb0)
  clear hb0 x4 x6 hs0 hg4 hg6 h4
  go_wp2_with fail
  go_loopw [13] (fun iv wr => ∃ (j : Nat) (O' : Nat → Prop) (st' : ShS × Int) (r' : Int × Int), j ≤ L.length ∧ iv = .int .i64 (j : Nat) ∧ RtAt W wr S T g4 O' st' r' ∧ BoxA wr g6 (0, 0) ∧ Out O' T g6 ∧ TellsR (shRd st'.1.L) r' (apI (cfT L) m j) ∧ shK.Rdy st'.1 (7 * (L.length - j) + N) ∧ st'.1.full < 0 ∧ StEv w wr T O O' st st' ∧ (j = 0 → r' = (ra, rb))) (fun iv _ => L.length - (intOf iv).toNat)
  case atStart => exact ⟨0, O, st, (ra, rb), by omega, rfl, H4.out, X6.out, HO6.out, HM.out, HR.out, HF.out, HEV.out, fun _ => rfl⟩
  case round =>
    obtain ⟨j, O1, st1, ⟨ra1, rb1⟩, hj, rfl, hrt, hx6, ho6, htl, hrd, hfl, hev, hj0⟩ := hrel
    have HRT := Lib.hid hrt
    have HX6 := Lib.hid hx6
    have HO61 := Lib.hid ho6
    have HTL := Lib.hid htl
    have HRD := Lib.hid hrd
    have HFL := Lib.hid hfl
    have HEV1 := Lib.hid hev
    have HJ0 := Lib.hid hj0
    clear hrt hx6 ho6 htl hrd hfl hev hj0 H4 X6 HO6 HM HR HF HEV
    by_cases hjn : j < L.length
    · have hjI : (j : Int) < (L.length : Int) := by omega
      obtain ⟨x, hx⟩ : ∃ x, L[j]? = some x := ⟨_, List.getElem?_eq_getElem hjn⟩
      have hl1 := HL.out.off HEV1.out.off (fun k e e2 => HO.out k e2 e)
      obtain ⟨g, o, rfl, hg, hc⟩ := hl1.at_ (by omega)
      have hcx := hc j x hx
      have hokx := hl1.ok x (List.mem_of_getElem? hx)
      obtain ⟨⟨ck, co, cn⟩, u1, u2⟩ := x
      obtain ⟨hs1, hs2, hck, hlo, hln⟩ := (show SlB wr u1 (co.getD []) ∧ SlB wr u2 (cn.getD []) ∧ ck < 16777216 ∧ (co.getD []).length ≤ 256 ∧ (cn.getD []).length ≤ 256 from hokx)
      have hvo : VIn (Out O1 T) u2 := .of_blk fun k hk => by
        have hlg : lgO elC (some ⟨g, o, none⟩) L k := .inr ⟨((ck, co, cn), u1, u2), List.mem_of_getElem? hx, .inr hk⟩
        have h1 := HO.out k hlg
        have hlt : k < w.heap.size := by
          rcases hlg with ⟨hp, o', e⟩ | ⟨y, hy, hb⟩
          · exact elC.lt (HL.out.ok _ (List.mem_of_getElem? hx)) (.inr hk)
          · exact elC.lt (HL.out.ok y hy) hb
        refine ⟨fun e => ?_, fun e => h1 (.inr e)⟩
        rcases HEV1.out.hO k e with e | e
        · exact h1 (.inl e)
        · omega
      obtain ⟨y1, y2, y3, rfl, hy4, hy5⟩ := id hs2
      obtain ⟨x1, x2, x3, rfl, hx4, hx5⟩ := id hs1
      have k0 : wr.cell? ⟨g, o + j * 5, none⟩ = some (.int .i64 (ck : Nat)) := hcx 0 _ rfl
      have k1 : wr.cell? ⟨g, o + j * 5 + 1, none⟩ = some (.slice x1 x2 x3) := hcx 1 _ rfl
      have k2 : wr.cell? ⟨g, o + j * 5 + 2, none⟩ = some (.slice y1 y2 y3) := hcx 2 _ rfl
      have k3 : wr.cell? ⟨g, o + j * 5 + 3, none⟩ = some (.bool co.isSome) := hcx 3 _ rfl
      have k4 : wr.cell? ⟨g, o + j * 5 + 4, none⟩ = some (.bool cn.isSome) := hcx 4 _ rfl
      have lk := lt_of_cell k0
      have HAP : Hid (apI (cfT L) m (j + 1) = upd (apI (cfT L) m j) ck cn) := Lib.hid (by
        have e : cfT L j = (ck, co, cn) := by unfold cfT; rw [hx]; rfl
        show upd (apI (cfT L) m j) (cfT L j).1 (cfT L j).2.2 = _
        rw [e])
      have HVO := Lib.hid hvo
      have HS2 := Lib.hid hs2
      have HLN := Lib.hid hln
      have HCK := Lib.hid hck
      clear hl1 hg hc hcx hokx hx hs1 hs2 hvo hlo hln hy4 hy5 hx4 hx5 hck
      have b0 := HRT.out.box.1
      have b1 := HRT.out.box.2.1
      have lb := HRT.out.box.lt
      simp only at b0 b1
      have HRD1 : Hid (shK.Rdy st1.1 (7 * (L.length - (j + 1)) + N + 7)) := Lib.hid (by rw [show 7 * (L.length - (j + 1)) + N + 7 = 7 * (L.length - j) + N by omega]; exact HRD.out)
      cases cn with
      | some Ln =>
        have HSET : Hid (∀ w', Below wr.heap.size wr w' → Calls Try.prog 22 #[.pointer (some ⟨T, 0, none⟩), .agg #[.int .i64 ra1, .int .i64 rb1], .int .i64 (ck : Nat), .slice y1 y2 y3] w' fun e w3 => ∃ O' st' r', SetOk W w' w3 S T O1 O' st1 st' (7 * (L.length - (j + 1)) + N) 6 (fun rd' r' => Tells rd' 0 0 r' (upd (apI (cfT L) m j) ck (some Ln)) ∧ (apI (cfT L) m j ck = some Ln → r' = (ra1, rb1))) r' e) := Lib.hid fun w' hb =>
          shl_set (HRT.out.l.up hb) HRD1.out HFL.out (r := (ra1, rb1)) HTL.out HCK.out (HS2.out.up hb) HLN.out HVO.out
        go_upto_region 8 with (go_at_call 22; (with_reducible refine (HSET.out _ (by exact ((Below.refl _ _).alloc (Nat.le_refl _) _))).mono ?_); rintro e w3 ⟨O3, st3, ⟨r3a, r3b⟩, hs⟩; have he3 := hs.e; subst he3; have HS3 := Lib.hid hs; have kb := SetOk.rt HRT.out ((Below.refl _ _).alloc (Nat.le_refl _) _) hs; have y0 := kb.box.1; have y1 := kb.box.2.1; have z0 := kb.box.2.2 0; have z1 := kb.box.2.2 1; have ly := kb.box.lt; simp only at y0 y1; have HKB := Lib.hid kb; clear kb hs)
        refine wp_forget (fun V => RtAt W V S T g4 O3 st3 (r3a, r3b) ∧ BoxA V g6 (0, 0) ∧ Out O3 T g6 ∧ StEv w V T O O3 st st3) (ap_next (r3 := (r3a, r3b)) HRT.out HX6.out HO61.out HEV1.out ((Below.refl _ _).alloc (Nat.le_refl _) _) HS3.out HG.out) ?_
        clear y0 y1 z0 z1 ly HKB k0 k1 k2 k3 k4 b0 b1 lb
        rintro V6 ⟨hrt6, hx6', ho6', hev6⟩
        have HRT6 := Lib.hid hrt6
        have HX7 := Lib.hid hx6'
        have HO7 := Lib.hid ho6'
        have HEV7 := Lib.hid hev6
        clear hrt6 hx6' ho6' hev6
        go_wp2
        go_roundw
        case rel => exact ⟨j + 1, O3, st3, (r3a, r3b), by omega, by go_num, HRT6.out, HX7.out, HO7.out, by rw [HAP.out]; exact .inr HS3.out.g.1, HS3.out.rdy, HS3.out.full, HEV7.out, fun e => absurd e (by omega)⟩
        case measure => simp [intOf]; omega
      | none =>
        have HDEL : Hid (∀ w', Below wr.heap.size wr w' → Calls Try.prog 24 #[.pointer (some ⟨T, 0, none⟩), .agg #[.int .i64 ra1, .int .i64 rb1], .int .i64 (ck : Nat)] w' fun e w3 => ∃ O' st' r', SetOk W w' w3 S T O1 O' st1 st' (7 * (L.length - (j + 1)) + N) 7 (fun rd' r' => TellsR rd' r' (upd (apI (cfT L) m j) ck none) ∧ (apI (cfT L) m j ck = none → r' = (ra1, rb1))) r' e) := Lib.hid fun w' hb =>
          shl_del (HRT.out.l.up hb) HRD1.out HFL.out (r := (ra1, rb1)) HTL.out HCK.out
        go_upto_region 8 with (go_at_call 24; (with_reducible refine (HDEL.out _ (by exact ((Below.refl _ _).alloc (Nat.le_refl _) _))).mono ?_); rintro e w3 ⟨O3, st3, ⟨r3a, r3b⟩, hs⟩; have he3 := hs.e; subst he3; have HS3 := Lib.hid hs; have kb := SetOk.rt HRT.out ((Below.refl _ _).alloc (Nat.le_refl _) _) hs; have y0 := kb.box.1; have y1 := kb.box.2.1; have z0 := kb.box.2.2 0; have z1 := kb.box.2.2 1; have ly := kb.box.lt; simp only at y0 y1; have HKB := Lib.hid kb; clear kb hs)
        refine wp_forget (fun V => RtAt W V S T g4 O3 st3 (r3a, r3b) ∧ BoxA V g6 (0, 0) ∧ Out O3 T g6 ∧ StEv w V T O O3 st st3) (ap_next (r3 := (r3a, r3b)) HRT.out HX6.out HO61.out HEV1.out ((Below.refl _ _).alloc (Nat.le_refl _) _) HS3.out HG.out) ?_
        clear y0 y1 z0 z1 ly HKB k0 k1 k2 k3 k4 b0 b1 lb
        rintro V6 ⟨hrt6, hx6', ho6', hev6⟩
        have HRT6 := Lib.hid hrt6
        have HX7 := Lib.hid hx6'
        have HO7 := Lib.hid ho6'
        have HEV7 := Lib.hid hev6
        clear hrt6 hx6' ho6' hev6
        go_wp2
        go_roundw
        case rel => exact ⟨j + 1, O3, st3, (r3a, r3b), by omega, by go_num, HRT6.out, HX7.out, HO7.out, by rw [HAP.out]; exact HS3.out.g.1, HS3.out.rdy, HS3.out.full, HEV7.out, fun e => absurd e (by omega)⟩
        case measure => simp [intOf]; omega
    · obtain rfl : j = L.length := by omega
      have b0 := HRT.out.box.1
      have b1 := HRT.out.box.2.1
      have lb := HRT.out.box.lt
      have z0 := HX6.out.1
      have z1 := HX6.out.2.1
      have lz := HX6.out.lt
      simp only at b0 b1 z0 z1
      have zf0 := HX6.out.2.2 0
      have zf1 := HX6.out.2.2 1
      go_wp2
      have hst := HX6.out.set (ra1, rb1)
      have hfin : Off (· = g6) wr ((wr.setCell ⟨g6, 0, none⟩ (.int .i64 ra1)).setCell ⟨g6, 1, none⟩ (.int .i64 rb1)) := hst.2
      have y0 := hst.1.1
      have y1 := hst.1.2.1
      simp only at y0 y1
      refine bodyPost_ret (results_addr rfl _ _ _ _ _ rfl y0 y1) rfl ?_
      have hg := HG.out
      have m1 := HRT.out
      have hge := m1.ge
      refine ⟨O1, st1, (ra1, rb1), rfl, fun e => HJ0.out (by rw [e]; rfl), ⟨m1.l.offW hfin (fun k e => by rw [e]; exact ⟨HO61.out, by omega⟩), shK_good.mono _ _ _ HRD.out (by omega), HFL.out, HTL.out, HEV1.out.own hfin (fun k e => by rw [e]; omega)⟩⟩
end Go.Proofs.Ytgkdggidgaifhaa
