/- step of the world of almanaclaw14: Bring of bytes. -/
import Derived.Test.YtmipngefpedfpaaXnZ
namespace Go.Proofs.Ytmipngefpedfpaa
open Go.RowKit Go.Maps
set_option linter.unusedVariables false
set_option linter.unusedSimpArgs false

/-- copy, onto bytes that are known whole: no more than fit. -/
theorem wpList_copy_min {ops : Array Oper} {rest : List Oper} {o : Oper} {a : Act} {w : World} {Q : Exit → Act → World → Prop} (hgd : o.guard = none) (dd s : Operand)
    (ho : o.op = .call { callee := .builtin .copy, args := #[dd, s], argTypes := #[22, 22] }) {z B c off m0 m n dCap sCap : Nat} {L b : Bytes} {dp sp : Option Addr} (hd : a.eval dd = .slice dp n dCap) (hs : a.eval s = .slice sp m0 sCap) (hm0 : Nat.min m0 n = m)
    (hby : ByAt w z B c L) (hz : 16 ≤ z) (hS : SBy w sp m b) (hfit : off + m ≤ z) (hn : n = z - off) (hdp : 0 < m → dp = some ⟨B, off, none⟩)
    (h : ∀ w', ByAt w' z B c (setB L off b) → Off (· = B) w w' → wpList Try.prog ops Q rest (a.put o.dst (.int .i64 (m : Nat))) w') : wpList Try.prog ops Q (o :: rest) a w := by
  have hsz : (Try.prog.info? 5).map (·.size) = some 1 := by
    obtain ⟨i, hi, _, h1, _⟩ := info_parts byte_info
    simp [hi, h1]
  have hbl := hS.1
  rcases Nat.eq_zero_or_pos m with h0 | hp
  · subst h0
    have hb : b = [] := by simpa using hbl
    subst hb
    have hsame : setB L off [] = L := by simp [setB]
    refine wpList_copy_nothing hgd dd s 22 22 ho 5 Try.underlying22 hsz dp sp n dCap m0 sCap hd hs hm0 ?_
    rw [hsame] at h
    exact h w hby (Off.refl _ _)
  · obtain ⟨b1, o1, rfl, hb1, hc1⟩ := hS.2 hp
    rw [hdp hp] at hd
    obtain ⟨cur, t, hrow, hcur⟩ := hby.row
    have hlen : (b.map bv).length = m := by simp [hbl]
    refine wpList_copy_own hgd dd s 22 22 ho 5 Try.underlying22 hsz B off n dCap ⟨b1, o1, none⟩ m0 sCap hd hs cur t hrow (b.map bv) ?_ (fun j v hj => ?_) (by rw [hlen]; omega) (fun v hv => ?_) ?_
    · rw [hlen, hm0]
    · have hj' : j < b.length := by
        rcases Nat.lt_or_ge j b.length with h | h
        · exact h
        · rw [List.getElem?_eq_none (by simpa using h)] at hj; cases hj
      rw [show (⟨b1, o1, none⟩ : Addr).add j = ⟨b1, o1 + j, none⟩ by unfold Addr.add; split <;> simp_all, hc1 j (by omega), at8_get hj']
      simp [hj'] at hj
      rw [← hj]
      rfl
    · obtain ⟨x, _, rfl⟩ := List.mem_map.1 hv
      simp [bv, Value.oneCell']
    · rw [hlen]
      have hBl := (Array.getElem?_eq_some_iff.1 hrow).1
      have hnew := setRow_heap w B cur (cur.toList.take off ++ (b.map bv ++ cur.toList.drop (off + m))).toArray t (0, 0) hrow
      have hcs : (cur.toList.take off ++ (b.map bv ++ cur.toList.drop (off + m))).length = cur.size := by simp [hbl]; omega
      refine h _ ⟨?_, hby.cap, ⟨?_, fun _ => ⟨B, 0, rfl, ?_, fun k hk => ?_⟩⟩, fun k => ?_, _, t, hnew, ?_⟩ ⟨rfl, rfl, rfl, by simp [World.setRow], fun k hk hne => setRow_other w B k _ hne⟩
      · rw [setB_len (by rw [hby.len]; omega), hby.len]
      · rw [setB_len (by rw [hby.len]; omega), hby.len]
      · exact (Array.getElem?_eq_some_iff.1 hnew).1
      · obtain ⟨b2, o2, e2, _, hc2⟩ := hby.sby.2 (by omega)
        cases e2
        have h2 := hc2 k hk
        rw [Nat.zero_add] at h2 ⊢
        rw [cell_of_row _ _ _ _ _ _ hrow] at h2
        rw [cell_of_row _ _ _ _ _ _ hnew, at8_setB (by rw [hby.len]; omega) k (by rw [hby.len]; exact hk), List.getElem?_toArray]
        by_cases h1 : k < off
        · rw [if_neg (by omega), List.getElem?_append_left (by simp; omega), List.getElem?_take, if_pos h1, Array.getElem?_toList]
          exact h2
        · rw [List.getElem?_append_right (by simp; omega)]
          have e : (cur.toList.take off).length = off := by simp; omega
          rw [e]
          by_cases h3 : k < off + b.length
          · rw [if_pos ⟨by omega, h3⟩, List.getElem?_append_left (by simp; omega), List.getElem?_map]
            have hk3 : k - off < b.length := by omega
            rw [List.getElem?_eq_getElem hk3, at8_get hk3]
            rfl
          · rw [if_neg (by omega), List.getElem?_append_right (by simp; omega), List.getElem?_drop, List.length_map, hbl]
            rw [show off + m + (k - off - m) = k by omega, Array.getElem?_toList]
            exact h2
      · unfold World.frozen?
        rw [hnew]
        simp
      · have : (cur.toList.take off ++ (b.map bv ++ cur.toList.drop (off + m))).toArray.size = cur.size := by rw [List.size_toArray]; exact hcs
        omega
section
variable {w0 w w' w1 w2 : World} {Wb S : Nat} {d : PD} {t t' t1 t2 : PSt ShS} {R : Prop} {k k1 : Nat} {vi vb : Value} {xs : List Pe} {is : List Int} {C : Cn} {x y : Pe} {q : Nat}
theorem mk_bring (h : WA w0 w Wb S d t R (k + 1) vi vb xs) (a : Int × Int) {L : Bytes} (hr : shP.rd t.s a = some L) (hl : L.length = d.z) : Calls Try.prog 24 #[.pointer (some ⟨d.Q, 0, none⟩), addrV a] w fun e w' => e = .returned (.int .i64 (t.nx : Nat)) ∧ ∃ t', MkS w0 w w' Wb S d t t' R k vi vb xs L := by
  refine (vw_bring h.vw a (o := some L) (fun b e => by cases e; exact ⟨hr, hl⟩)).mono ?_
  rintro e w' ⟨rfl, t', y, hv, hn, hx, hc, _⟩
  exact ⟨rfl, t', hv, h.wl.nx hn, hn, by rw [hc, h.cm]⟩
theorem by_made (w : World) {z : Nat} (hz : 16 ≤ z ∧ z ≤ 4096) : ByAt (w.alloc (.cells (madeCells #[.int .u8 0] z) 5)) z w.heap.size z (zeros z) := by
  obtain ⟨b, e, h, _⟩ := frb_by (FrB.zmade w z (by omega)) (by omega)
  cases e
  exact h
section
variable {g gb c0 : Nat} {c : Int × Int} {a : Int × Int} {L : Bytes}
theorem kp1A {p o : Nat} {v : Value} (h : w.cell? ⟨p, o, none⟩ = some v) (c : Array Value) (T : TypeId) : (w.alloc (.cells c T)).cell? ⟨p, o, none⟩ = some v :=
  (((Below.refl w.heap.size w).alloc (Nat.le_refl _) (.cells c T)).cell (p := ⟨p, o, none⟩) (lt_of_cell h)).trans h
theorem kp1B {p o : Nat} {v : Value} (h : w.cell? ⟨p, o, none⟩ = some v) (hp : p ≠ g) (a b : Value) : ((w.setCell ⟨g, 0, none⟩ a).setCell ⟨g, 1, none⟩ b).cell? ⟨p, o, none⟩ = some v := by
  have hne : ∀ o', (⟨g, o', none⟩ : Addr) ≠ ⟨p, o, none⟩ := fun o' e => by injection e with e; omega
  rw [World.cell?_setCell_other _ _ _ _ (hne _), World.cell?_setCell_other _ _ _ _ (hne _)]
  exact h
theorem brA {T : TypeId} {W : World} (h : WA w0 w' Wb S d t' R k vi vb xs) (hn : Nx S W w' d t t') (hb : Below w.heap.size w W) (hz : 16 ≤ d.z) (hby : ByAt w d.z gb c0 L) (hbs : Bes w0 d t Wb vi vb xs gb) (hr : shP.rd t'.s c = some L) :
    WA w0 (w'.alloc (.cells #[.int .i64 c.1, .int .i64 c.2] T)) Wb S d t' R k vi vb xs ∧ Bx w0 (w'.alloc (.cells #[.int .i64 c.1, .int .i64 c.2] T)) d t' Wb vi vb xs w'.heap.size c ∧ ByAt (w'.alloc (.cells #[.int .i64 c.1, .int .i64 c.2] T)) d.z gb c0 L ∧ Bes w0 d t' Wb vi vb xs gb ∧ shP.rd t'.s c = some L := by
  have hba : Below w'.heap.size w' (w'.alloc (.cells #[.int .i64 c.1, .int .i64 c.2] T)) := (Below.refl _ _).alloc (Nat.le_refl _) _
  have hbyW := hby.off (S := fun _ => False) hz (Off.of_below hb) (fun e => e)
  have hl := hbyW.lt hz
  exact ⟨h.up' hba, ⟨BoxA.new w' T c, h.bes (Nat.le_refl _)⟩, (hbyW.off hz hn.off hbs.no).off (S := fun _ => False) hz (Off.of_below hba) (fun e => e), hbs.nx hl hn, hr⟩
theorem brB {W : World} (h : WA w0 w' Wb S d t' R k vi vb xs) (hB : Bx w0 w' d t' Wb vi vb xs g a) (hn : Nx S W w' d t t') (hb : Below w.heap.size w W) (hz : 16 ≤ d.z) (hby : ByAt w d.z gb c0 L) (hbs : Bes w0 d t Wb vi vb xs gb) (hne : gb ≠ g) (hr : shP.rd t'.s c = some L) :
    WA w0 ((w'.setCell ⟨g, 0, none⟩ (.int .i64 c.1)).setCell ⟨g, 1, none⟩ (.int .i64 c.2)) Wb S d t' R k vi vb xs ∧ Bx w0 ((w'.setCell ⟨g, 0, none⟩ (.int .i64 c.1)).setCell ⟨g, 1, none⟩ (.int .i64 c.2)) d t' Wb vi vb xs g c ∧ ByAt ((w'.setCell ⟨g, 0, none⟩ (.int .i64 c.1)).setCell ⟨g, 1, none⟩ (.int .i64 c.2)) d.z gb c0 L ∧ Bes w0 d t' Wb vi vb xs gb ∧ shP.rd t'.s c = some L := by
  obtain ⟨e1, e2⟩ := hB.1.set c
  have hbyW := hby.off (S := fun _ => False) hz (Off.of_below hb) (fun e => e)
  have hl := hbyW.lt hz
  exact ⟨h.beside e2 (fun b e => by cases e; exact hB.2), ⟨e1, hB.2⟩, (hbyW.off hz hn.off hbs.no).off hz e2 hne, hbs.nx hl hn, hr⟩
end
theorem brV {gb n c : Nat} (h : Bes w0 d t Wb vi vb xs gb) : VIn (fun k => k ≠ Wb ∧ vi.ownBlock ≠ some k) (.slice (some ⟨gb, 0, none⟩) n c) := fun b o n c e _ => by
  cases e
  exact ⟨fun e => h.nl (.inl e), fun e => h.nl (.inr (.inl e))⟩
theorem mkS_less {W : World} {b : Bytes} (h : MkS w0 W w' Wb S d t t' R k vi vb xs b) (hk : k1 ≤ k) : MkS w0 W w' Wb S d t t' R k1 vi vb xs b := ⟨h.vw.less hk, h.wl, h.nx, h.cm⟩
/-- The bytes that are brought. -/
def brL (z : Nat) (b : Bytes) : Bytes := setB (zeros z) 0 (b.take (min b.length z))
theorem brL_len (z : Nat) (b : Bytes) : (brL z b).length = z := by
  unfold brL
  rw [setB_len (by simp [zeros_length]; omega), zeros_length]
set_option maxRecDepth 100000 in
set_option maxHeartbeats 8000000 in
theorem st_bring (h : WA w0 w Wb S d t True (k + 10) vi vb xs) (hf : xs.length < 999) {page off n : Int} {A : Option Addr} {nb cb : Nat} {b : Bytes} (hb : SBy w0 A nb b) :
    Calls Try.prog 18 #[.pointer (some ⟨Wb, 0, none⟩), .agg (Ac.cells ⟨7, page, off, n, A, nb, cb, b⟩)] w (StPost w0 Wb S d True k xs.length) := by
  have hb0 : Below w.heap.size w (w.alloc (.cells (Ac.cells ⟨7, page, off, n, A, nb, cb, b⟩) 54)) := (Below.refl _ _).alloc (Nat.le_refl _) _
  have HWC := Lib.hid (which_any (h.wl.up hb0) ⟨7, page, off, n, A, nb, cb, b⟩)
  have HAB := Lib.hid (AcB.new w ⟨7, page, off, n, A, nb, cb, b⟩ 54)
  have HW0 := Lib.hid (h.up' hb0)
  have HIN := Lib.hid hb
  obtain ⟨hz1, hz2⟩ := h.wl.z16
  clear h hb0 hb
  unfold Ac.cells at *
  simp only at HWC HAB HW0 ⊢
  go_enter Try.func18, Try.ntmps18
  go_wp2_with fail
  refine HWC.out.mono ?_
  rintro e w1 ⟨hb, hq⟩
  obtain ⟨ki, rfl, hki⟩ : ∃ ki : Int, e = .returned (.int .i64 ki) ∧ (ki = -1 ∨ 0 ≤ ki) := by
    rcases hq with ⟨_, rfl⟩ | ⟨q, _, rfl⟩
    · exact ⟨_, rfl, .inl rfl⟩
    · exact ⟨_, rfl, .inr (by omega)⟩
  have HW1 := Lib.hid (HW0.out.up' hb)
  have hab := HAB.out.up hb
  have c0 := hab.c0
  have c4 := hab.c4
  simp only at c0 c4
  have lg := hab.lt
  have q2 := HW1.out.wl.c2
  have lW := HW1.out.wl.ltW
  have hmk := fun (W : World) => run_make_bytes d.z (by omega) W
  clear hb hq hab HWC HAB HW0
  rcases hki with rfl | hki
  all_goals
    go_upto_region 45 with (fail)
    have hbm : Below w1.heap.size w1 (w1.alloc (.cells (madeCells #[.int .u8 0] d.z) 5)) := (Below.refl _ _).alloc (Nat.le_refl _) _
    refine wp_forget (fun V => (WA w0 V Wb S d t True (k + 10) vi vb xs ∧ ByAt V d.z w1.heap.size d.z (zeros d.z)) ∧ V.cell? ⟨w.heap.size, 4, none⟩ = some (.slice A nb cb) ∧ Below w1.heap.size w1 V) ⟨⟨HW1.out.up' hbm, by_made _ ⟨hz1, hz2⟩⟩, (hbm.cell (p := ⟨w.heap.size, 4, none⟩) lg).trans c4, hbm⟩ ?_
    rintro V ⟨⟨hV, hBY⟩, c4', hbV⟩
    have HV := Lib.hid hV
    have HBY := Lib.hid hBY
    have hbes := Lib.hid (HW1.out.bes (Nat.le_refl _))
    have lg' := lt_of_cell c4'
    have HS := Lib.hid (HIN.out.inV (c := cb) hV.vw).1
    have HBV := Lib.hid hbV
    clear hV hBY hbm c0 c4 lg q2 lW hmk hbV
    generalize w.heap.size = ga at *
    go_wp2_with (with_reducible refine wpList_copy_min rfl (.tmp 476) (.tmp 478) rfl rfl rfl (m := min nb d.z) rfl HBY.out hz1 (HS.out.take (Nat.min_le_left _ _)) (Nat.le_trans (by omega) (Nat.min_le_right nb d.z)) rfl (fun _ => rfl) ?_)
    intro w2 hby2 ho2
    have HW2 := Lib.hid (HV.out.beside ho2 (fun b e => by cases e; exact hbes.out))
    have hll : (setB (zeros d.z) 0 (b.take (min nb d.z))).length = d.z := hby2.len
    obtain ⟨L, hL⟩ : ∃ L, setB (zeros d.z) 0 (b.take (min nb d.z)) = L := ⟨_, rfl⟩
    rw [hL] at hby2 hll
    have HBY2 := Lib.hid hby2
    have HLL := Lib.hid hll
    obtain ⟨gb, hgb⟩ : ∃ gb, gb = w1.heap.size := ⟨_, rfl⟩
    rw [← hgb] at HBY2 hbes ⊢
    have q1 := HW2.out.wl.c1
    have lW := HW2.out.wl.ltW
    have HBL := Lib.hid (show gb < w2.heap.size from HBY2.out.lt hz1)
    clear hby2 ho2 hL hll HV HBY HS HBV c4' lg' hgb
    have HPU := Lib.hid (show ∀ W : World, Below w2.heap.size w2 W → Calls Try.prog 23 #[.pointer (some ⟨S, 0, none⟩), .slice (some ⟨gb, 0, none⟩) d.z d.z] W fun e w' => ∃ (t6 : PSt ShS) (e1 e2 : Int), e = .returned (.tuple #[.agg #[.int .i64 e1, .int .i64 e2], .int .i64 0]) ∧ WA w0 w' Wb S d t6 True (k + 9) vi vb xs ∧ Nx S W w' d t t6 ∧ shP.rd t6.s (e1, e2) = some L from fun W hbW => by
      have hvW := HW2.out.up' hbW
      have hbyW := HBY2.out.off (S := fun _ => False) hz1 (Off.of_below hbW) (fun e => e)
      refine (vw_shPut (k := k + 9) hvW.vw (hvW.vw.room trivial) ⟨_, _, _, rfl, hbyW.cap, hbyW.sby, fun a e => by cases e; exact ⟨_, _, rfl⟩⟩ (by rw [hbyW.len]; omega)).mono ?_
      rintro e w' ⟨t6, ⟨e1, e2⟩, g1, g2, g3, g4, g5, g6, _⟩
      exact ⟨t6, e1, e2, g1, hvW.nx g2 g3 g4, g3, g6⟩)
    go_wp2_with fail
    refine (HPU.out _ (Below.refl _ _)).mono ?_
    rintro e w3 ⟨t6, e1, e2, rfl, hw3, hn3, hr3⟩
    have HQ := Lib.hid (brA (T := 40) hw3 hn3 (Below.refl _ _) hz1 HBY2.out hbes.out hr3)
    clear hw3 hn3 hr3
    go_upto_region 47 with (fail)
    refine wp_forget (fun V => WA w0 V Wb S d t6 True (k + 9) vi vb xs ∧ Bx w0 V d t6 Wb vi vb xs w3.heap.size (e1, e2) ∧ ByAt V d.z gb d.z L ∧ Bes w0 d t6 Wb vi vb xs gb ∧ shP.rd t6.s (e1, e2) = some L) HQ.out ?_
    rintro w4 ⟨hV, hB, hby, hbs, hr6⟩
    clear HQ
    generalize w3.heap.size = g26 at *
    clear q1 lW HPU HW2 HBY2 HBL hbes
    have HV := Lib.hid hV
    have HB := Lib.hid hB
    have HBY := Lib.hid hby
    have HBS := Lib.hid hbs
    have HR6 := Lib.hid hr6
    clear hV hB hby hbs hr6
    have HMK := Lib.hid (show ∀ W : World, Below w4.heap.size w4 W → Calls Try.prog 24 #[.pointer (some ⟨d.Q, 0, none⟩), .agg #[.int .i64 e1, .int .i64 e2]] W fun e w' => e = .returned (.int .i64 (t6.nx : Nat)) ∧ ∃ t', MkS w0 W w' Wb S d t6 t' True (k + 8) vi vb xs L from fun W hbW => mk_bring (HV.out.up' hbW) (e1, e2) HR6.out HLL.out)
    have q0 := HV.out.wl.c0
    have lW := HV.out.wl.ltW
    have d0 := HB.out.1.1
    have d1 := HB.out.1.2.1
    have ld := HB.out.lt
    simp only at d0 d1
    go_region_law (first
      | (go_simp; go_at_call 24; refine (HMK.out _ (by go_grown)).mono ?_; rintro e w5 ⟨rfl, t5, hm5⟩; have HM5 := Lib.hid hm5; have HB5 := Lib.hid ((HBY.out.off (S := fun _ => False) hz1 (Off.of_below (by go_grown)) (fun e => e)).off hz1 hm5.nx.off HBS.out.no); clear hm5)
      | (go_simp; go_at_call 39; refine (mk_more2 (k := k) HV.out (mkS_less HM5.out (by omega)) hf (by first | exact Below.refl _ _ | exact bel_dr _ | go_grown) (by first | exact HB5.out.sby | exact HB5.out.sby.drew) rfl (brV HBS.out)).mono ?_; rintro e w6 ⟨rfl, hq6⟩; have HQ6 := Lib.hid hq6; clear hq6))
    all_goals
      go_wp2
      go_ret
      exact HQ6.out
end
end Go.Proofs.Ytmipngefpedfpaa
