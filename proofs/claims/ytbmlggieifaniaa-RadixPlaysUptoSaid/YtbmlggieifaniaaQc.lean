/- radix's laws: known. -/
import Derived.Test.YtbmlggieifaniaaQb
import Derived.Lib.SlBytesConst
namespace Go.Proofs.Ytbmlggieifaniaa
open Go.RowKit
set_option linter.unusedVariables false
set_option linter.unusedSimpArgs false

theorem shl_new {W w w1 w2 : World} {e1 e2 : Ending} (hb : Below W.heap.size W w) (h1 : ShNew w e1 w1) (h2 : TrNew (shM w.heap.size) w1 (· = w.heap.size) sh0 e2 w2) : ShL W w2 w.heap.size w1.heap.size (· = w.heap.size) (sh0, 0) := by
  have s0 := hb.size
  obtain ⟨_, b1, s1, _⟩ := h1
  obtain ⟨_, b2, s2, ht⟩ := h2
  have s3 := b1.size
  exact ⟨ht, fun k e => by rw [e]; exact s0, by omega, by show (-1 : Int) < 0; omega, (hb.trans (b1.mono s0)).trans (b2.mono (by omega))⟩
def mp1 : Mp := upd (fun _ => none) 5 (some [b8 120])
def mp2 : Mp := upd mp1 70000 (some [b8 121])
theorem mp2_lst : Lst mp2 [(5, [b8 120]), (70000, [b8 121])] := by
  have h1 : Lst mp1 [(5, [b8 120])] := Lst.nil.set 5 [b8 120]
  exact h1.set 70000 [b8 121]
/-- A literal of one byte is no tree's. -/
theorem lit1_out {W w : World} {S T : Nat} {O : Nat → Prop} {st : ShS × Int} (h : ShL W w S T O st) : VIn (Out O T) (.slice (some ⟨w.heap.size, 0, none⟩) 1 1) := fun b o n c e _ => by
  cases e
  exact h.tr.outOf (Nat.le_refl _)
theorem shl_setlit {W w : World} {S T : Nat} {O : Nat → Prop} {st : ShS × Int} (h : ShL W w S T O st) {n : Nat} (hr : shK.Rdy st.1 (n + 7)) (hf : st.1.full < 0) {r : Int × Int} {m : Mp} (hm : TellsR (shRd st.1.L) r m) {key : Nat} (hk : key < 16777216) {kI : Int} (hkI : kI = (key : Nat)) (x : Int) (hx : 0 ≤ x ∧ x ≤ 255) :
    Calls Try.prog 12 #[.pointer (some ⟨T, 0, none⟩), .agg #[.int .i64 r.1, .int .i64 r.2], .int .i64 kI, .slice (some ⟨w.heap.size, 0, none⟩) 1 1] (w.alloc (.cells #[.int .u8 x] 5 (1, 2))) fun e w' => ∃ O' st' r', SetOk W (w.alloc (.cells #[.int .u8 x] 5 (1, 2))) w' S T O O' st st' n 6 (fun rd' r' => Tells rd' 0 0 r' (upd m key (some [b8 x.toNat])) ∧ (m key = some [b8 x.toNat] → r' = r)) r' e := by
  subst hkI
  exact shl_set (h.up ((Below.refl _ _).alloc (Nat.le_refl _) _)) hr hf hm hk (lit1 w x hx) (by simp) (lit1_out h)
theorem shl_getlit {W w : World} {S T : Nat} {O : Nat → Prop} {st : ShS × Int} {r : Int × Int} {m : Mp} (h : ShL W w S T O st) (hm : TellsR (shRd st.1.L) r m) {key : Nat} (hk : key < 16777216) {kI : Int} (hkI : kI = (key : Nat)) :
    Calls Try.prog 18 #[.pointer (some ⟨T, 0, none⟩), .agg #[.int .i64 r.1, .int .i64 r.2], .int .i64 kI] w (GlOk W w S T O st (m key)) := by
  subst hkI
  exact shl_get h hm hk
theorem conv1 (w : World) (x : Int) : (convert 23 23 (.slice (some ⟨w.heap.size, 0, none⟩) 1 1)).run Try.prog (w.alloc (.cells #[.int .u8 x] 5)) = .ok (.slice (some ⟨w.heap.size, 0, none⟩) 1 1) (w.alloc (.cells #[.int .u8 x] 5 (1, 2))) :=
  Lib.run_convert_bytes_const (P := Try.prog) w 23 5 #[.int .u8 x] 1 1 Try.underlying23 Try.underlying5
theorem tells_r {rd : Rdr} {r : Int × Int} {m : Mp} (h : Tells rd 0 0 r m) : TellsR rd r m := .inr h
/-- A box of the law's. -/
theorem ShL.box {W w : World} {S T : Nat} {O : Nat → Prop} {st : ShS × Int} (h : ShL W w S T O st) (r : Int × Int) (t : TypeId) : ShL W (w.alloc (.cells #[.int .i64 r.1, .int .i64 r.2] t)) S T O st ∧ BoxA (w.alloc (.cells #[.int .i64 r.1, .int .i64 r.2] t)) w.heap.size r ∧ Out O T w.heap.size :=
  ⟨h.up ((Below.refl _ _).alloc (Nat.le_refl _) _), BoxA.new w t r, h.tr.outOf (Nat.le_refl _)⟩
theorem out_next {O O' : Nat → Prop} {T g : Nat} {w : World} (h : Out O T g) (hO : ∀ k, O' k → O k ∨ w.heap.size ≤ k) (hg : g < w.heap.size) : Out O' T g := ⟨fun e => (hO g e).elim h.1 (fun e => by omega), h.2⟩
set_option maxRecDepth 100000 in
set_option maxHeartbeats 4000000 in
theorem known_any (W : World) : Calls Try.prog 8 #[] W fun e w' => e = .returned (.bool true) ∧ Below W.heap.size W w' := by
  go_enter Try.func8, Try.ntmps8
  go_upto_region 2 with (go_at_call 10; refine (newShelf_any _).mono ?_; rintro e w1 hsh; have he1 := hsh.1; subst he1)
  have HSH := Lib.hid hsh
  have HTN : Hid (Calls Try.prog 11 #[.iface 26 (.pointer (some ⟨W.heap.size, 0, none⟩))] w1 (TrNew (shM W.heap.size) w1 (· = W.heap.size) sh0)) := Lib.hid (treeNew_any (M := shM W.heap.size) (w := w1) (O := (· = W.heap.size)) (s := sh0) (show (shM W.heap.size).At w1 (· = W.heap.size) sh0 from hsh.2.2.2))
  clear hsh
  go_wp2_with (go_at_call 11; refine HTN.out.mono ?_; rintro e w2 htn; have he2 := htn.1; subst he2)
  have HL := Lib.hid (shl_new (Below.refl _ _) HSH.out htn)
  clear htn HTN HSH
  have HS1 := Lib.hid (shl_setlit HL.out (n := 63) (r := (0, 0)) (m := fun _ => none) (key := 5) (kI := 5) (sh0_rdy (by omega)) (by show (-1 : Int) < 0; omega) (.inl ⟨rfl, fun _ => rfl⟩) (by omega) rfl 120 (by omega))
  have hci := conv1 w2 120
  go_upto_region 5 with (fail)
  go_upto_region 6 with (go_at_call 12; refine HS1.out.mono ?_; rintro e w3 ⟨O3, st3, ⟨r3a, r3b⟩, hs⟩; have he3 := hs.e; subst he3; have HS3 := Lib.hid hs; clear hs HS1 HL hci)
  have HB3 := Lib.hid (HS3.out.l.box (r3a, r3b) 32)
  refine wp_forget (fun V => ShL W V W.heap.size w1.heap.size O3 st3 ∧ BoxA V w3.heap.size (r3a, r3b) ∧ Out O3 w1.heap.size w3.heap.size) HB3.out ?_
  rintro V ⟨hL, hB, hO⟩
  have HL4 := Lib.hid hL
  have HB4 := Lib.hid hB
  have HO4 := Lib.hid hO
  have b0 := hB.1
  have b1 := hB.2.1
  simp only at b0 b1
  have lb := hB.lt
  have HS1 := Lib.hid (shl_setlit HL4.out (n := 49) (r := (r3a, r3b)) (m := mp1) (key := 70000) (kI := 70000) (shK_good.mono _ _ _ HS3.out.rdy (by omega)) HS3.out.full (.inr HS3.out.g.1) (by omega) rfl 121 (by omega))
  have hci := conv1 V 121
  clear hL hB hO HB3
  go_upto_region 7 with (go_at_call 12; refine HS1.out.mono ?_; rintro e w5 ⟨O5, st5, ⟨r5a, r5b⟩, hs⟩; have he5 := hs.e; subst he5; have HS5 := Lib.hid hs; clear hs HS1 HL4 hci b0 b1 lb)
  have hal : Below V.heap.size V (V.alloc (.cells #[.int .u8 121] 5 (1, 2))) := (Below.refl _ _).alloc (Nat.le_refl _) _
  have hA := (HB4.out.off (S := fun _ => False) (Off.of_below hal) id).off HS5.out.off (by rintro (e | e); exact HO4.out.1 e; exact HO4.out.2 e)
  have hlA := hA.lt
  have HB5 := Lib.hid (HS5.out.l.box (r5a, r5b) 32)
  refine wp_forget (fun V => ShL W V W.heap.size w1.heap.size O5 st5 ∧ BoxA V w5.heap.size (r5a, r5b) ∧ Out O5 w1.heap.size w5.heap.size ∧ BoxA V w3.heap.size (r3a, r3b) ∧ Out O5 w1.heap.size w3.heap.size) ⟨HB5.out.1, HB5.out.2.1, HB5.out.2.2, hA.off (S := fun _ => False) (Off.of_below ((Below.refl _ _).alloc (Nat.le_refl _) _)) id, out_next HO4.out HS5.out.hO (by have := HB4.out.lt; have := hal.size; omega)⟩ ?_
  rintro V6 ⟨hL6, hB6, hO6, hA6, hQ6⟩
  have hsub : SubR (shRd st3.1.L) (shRd st5.1.L) := by
    obtain ⟨j, _, ha⟩ := HS5.out.aft
    exact ha.sub
  have HL6 := Lib.hid hL6
  have HB6 := Lib.hid hB6
  have HA6 := Lib.hid hA6
  have HO6 := Lib.hid hO6
  have HQ6 := Lib.hid hQ6
  have HT2 : Hid (Tells (shRd st5.1.L) 0 0 (r5a, r5b) mp2) := Lib.hid HS5.out.g.1
  have HT1 : Hid (Tells (shRd st5.1.L) 0 0 (r3a, r3b) mp1) := Lib.hid (HS3.out.g.1.mono hsub)
  have HR5 : Hid (shK.Rdy st5.1 0) := Lib.hid (shK_good.mono _ _ _ HS5.out.rdy (by omega))
  clear hL6 hB6 hO6 hA6 hQ6 hsub HS5 HS3 HB5 hA hal hlA HB4 HO4
  have HG := Lib.hid (shl_getlit HL6.out (r := (r5a, r5b)) (.inr HT2.out) (key := 5) (kI := 5) (by omega) rfl)
  have b0 := HB6.out.1
  have b1 := HB6.out.2.1
  have d0 := HA6.out.1
  have d1 := HA6.out.2.1
  have lb := HB6.out.lt
  have ld := HA6.out.lt
  simp only at b0 b1 d0 d1
  go_upto_region 8 with (go_at_call 18; refine HG.out.mono ?_; rintro e w7 ⟨v7, s7, he, hk, hs7, hv7⟩; subst he)
  clear b0 b1 lb HG
  have HK7 := Lib.hid hk
  have HS7 := Lib.hid hs7
  have HV7 := Lib.hid hv7
  have HB7 := Lib.hid (HB6.out.off hk.off HO6.out.1)
  have HA7 := Lib.hid (HA6.out.off hk.off HQ6.out.1)
  have hr7 := hk.aft.sub
  have HT2 : Hid (Tells (shRd s7.L) 0 0 (r5a, r5b) mp2) := Lib.hid (HT2.out.mono hr7)
  have HT1 : Hid (Tells (shRd s7.L) 0 0 (r3a, r3b) mp1) := Lib.hid (HT1.out.mono hr7)
  have HR7 : Hid (shK.Rdy s7 0) := Lib.hid (hk.rdy _ HR5.out)
  clear hk hs7 hv7 hr7 d0 d1 ld
  have d0 := HA7.out.1
  have d1 := HA7.out.2.1
  have ld := HA7.out.lt
  simp only at d0 d1
  have HG := Lib.hid (shl_getlit HK7.out.l (r := (r3a, r3b)) (.inr HT1.out) (key := 70000) (kI := 70000) (by omega) rfl)
  go_upto_region 9 with (go_at_call 18; refine HG.out.mono ?_; rintro e w8 ⟨v8, s8, he, hk, hs8, hv8⟩; subst he)
  clear d0 d1 ld HG
  have HK8 := Lib.hid hk
  have HS7b := Lib.hid (HS7.out.offP hk.off (HV7.out.mono fun b hb => hb.1))
  have HB8 := Lib.hid (HB7.out.off hk.off HO6.out.1)
  have hr8 := hk.aft.sub
  have HT2 : Hid (Tells (shRd s8.L) 0 0 (r5a, r5b) mp2) := Lib.hid (HT2.out.mono hr8)
  have HR8 : Hid (shK.Rdy s8 0) := Lib.hid (hk.rdy _ HR7.out)
  clear hk hs8 hv8 hr8
  have b0 := HB8.out.1
  have b1 := HB8.out.2.1
  have lb := HB8.out.lt
  simp only at b0 b1
  have HC : Hid (Calls Try.prog 19 #[.pointer (some ⟨w1.heap.size, 0, none⟩), .agg #[.int .i64 r5a, .int .i64 r5b]] w8 (ChOk W w8 W.heap.size w1.heap.size O5 (s8, st5.2) 2)) := Lib.hid (shl_check HK8.out.l HR8.out (r := (r5a, r5b)) (.inr HT2.out) mp2_lst (by show 2 ≤ 149796; omega))
  go_upto_region 10 with (go_at_call 19; refine HC.out.mono ?_; rintro e w9 ⟨s9, he, hk⟩; subst he)
  have HK9 := Lib.hid hk
  have hs9 := HS7b.out.offP hk.off (HV7.out.mono fun b hb => hb.1)
  obtain ⟨A9, n9, c9, hv9, hc9, hsb9⟩ := hs9
  subst hv9
  have hcv : (convert 23 9 (.slice A9 n9 c9)).run Try.prog w9 = .ok (.string ⟨#[120]⟩) w9 := hsb9.str c9
  clear hk b0 b1 lb HC hsb9
  go_wp2
  go_ret
  exact ⟨rfl, HK9.out.l.bel⟩
end Go.Proofs.Ytbmlggieifaniaa
