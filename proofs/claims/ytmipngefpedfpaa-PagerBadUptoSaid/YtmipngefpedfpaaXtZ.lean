/- The world of almanaclaw14, and pages that the law does not keep. -/
import Derived.Test.YtmipngefpedfpaaXrZ
namespace Go.Proofs.Ytmipngefpedfpaa
open Go.RowKit Go.Maps
set_option linter.unusedVariables false
set_option linter.unusedSimpArgs false

/-- As WA, with other pages beside. -/
structure WC (w0 w : World) (Wb S : Nat) (d : PD) (t : PSt ShS) (R : Prop) (k : Nat) (vi vb : Value) (xs : List Pe) (C : Cn) : Prop where
  vw : Vw S w0 w d t C R k
  wl : WL w0 w Wb S d t vi vb (xs.map Pe.id) xs
  cC : ∀ x ∈ xs, C x.id = some (some x.b)
def PutAt (t : PSt ShS) (i : Int) (a : Int × Int) : Prop := ∃ x, t.pm i = some x ∧ x.put = true ∧ x.at_ = a
def BadAt (rd : Rdr) (z : Nat) (a : Int × Int) : Prop := ∀ b, rd a = some b → b.length ≠ z
section
variable {w0 w w' w1 w2 : World} {Wb S : Nat} {d : PD} {t t' t1 t2 : PSt ShS} {R : Prop} {k k1 : Nat} {vi vb : Value} {xs : List Pe} {is : List Int} {C : Cn} {x y : Pe} {q : Nat} {i : Int} {a : Int × Int} {L : Bytes}
theorem WC.up' (h : WC w0 w Wb S d t R k vi vb xs C) (hb : Below w.heap.size w w') : WC w0 w' Wb S d t R k vi vb xs C := ⟨h.vw.up hb, h.wl.up hb, h.cC⟩
theorem WC.less (h : WC w0 w Wb S d t R k vi vb xs C) (hk : k1 ≤ k) : WC w0 w Wb S d t R k1 vi vb xs C := ⟨h.vw.less hk, h.wl, h.cC⟩
theorem WC.nx (h : WC w0 w Wb S d t R k vi vb xs C) (hv : Vw S w0 w' d t' C R k1) (hn : Nx S w w' d t t') : WC w0 w' Wb S d t' R k1 vi vb xs C := ⟨hv, h.wl.nx hn, h.cC⟩
theorem WC.ids (h : WC w0 w Wb S d t R k vi vb xs C) {x : Pe} (hx : x ∈ xs) : 1 ≤ x.id ∧ x.id < t.nx ∧ t.pm x.id ≠ none ∧ x.b.length = d.z := by
  obtain ⟨h1, h2⟩ := h.vw.id1 _ _ (h.cC x hx)
  obtain ⟨y, h3, _, h4⟩ := h.vw.con _ _ (h.cC x hx)
  exact ⟨h1, h2, by rw [h3]; simp, h4⟩
theorem PutAt.ev {z j : Nat} {E : Int → Prop} (h : PutAt t i a) (he : Ev shP z j E t t') (hi : ¬ E i) : PutAt t' i a := by
  obtain ⟨x, h1, h2, h3⟩ := h
  obtain ⟨x', e1, _, _, _, e5, _⟩ := he.pg i x hi h1
  obtain ⟨e6, e7⟩ := e5 h2
  exact ⟨x', e1, e6, e7.trans h3⟩
/-- Such a page tells nothing. -/
theorem PutAt.bad (h : PutAt t i a) (hi : PI shP d t) (hz : ∀ B c L, ∀ x, t.pm i = some x → x.bb = some (B, c, L) → L.length = d.z) (hb : BadAt (shP.rd t.s) d.z a) : ∃ x, t.pm i = some x ∧ cont (shP.rd t.s) d.z x = none := by
  obtain ⟨x, h1, h2, h3⟩ := h
  refine ⟨x, h1, ?_⟩
  obtain ⟨g1, g2⟩ := hi.put i x h1 h2
  unfold cont
  cases hbb : x.bb with
  | some u =>
    obtain ⟨B, c, L⟩ := u
    have := g1 B c L hbb
    rw [h3] at this
    exact absurd (hz B c L x h1 hbb) (hb L this)
  | none =>
    simp only
    by_cases hzr : x.zero = true
    · have := g2 hzr
      rw [h3] at this
      exact absurd (zeros_length d.z) (hb _ this)
    · rw [if_neg hzr, h3]
      cases hr : shP.rd t.s a with
      | none => rfl
      | some b => simp [hb b hr]
theorem gone_bad (L : List Bytes) {z : Nat} (hz : 16 ≤ z) : BadAt (shRd L) z (1073741824, 20) := fun b h => by
  unfold shRd at h
  split at h
  · cases h
  · split at h
    · cases h
    · rename_i h2
      cases h
      have h3 := Decidable.not_not.1 h2
      change (20 : Int) = 13 + _ at h3
      omega
theorem BadAt.sub {rd rd' : Rdr} {z : Nat} (hr : rd a = some L) (hs : SubR rd rd') (hl : L.length ≠ z) : BadAt rd' z a := fun b e => by
  rw [hs _ _ hr] at e
  cases e
  exact hl
set_option maxRecDepth 100000 in
set_option maxHeartbeats 4000000 in
theorem wread_c (h : WC w0 w Wb S d t R (k + 1) vi vb xs C) (hR : R) {q : Nat} {x : Pe} (hq : xs[q]? = some x) (off n : Nat) (hin : off + n ≤ d.z) :
    Calls Try.prog 21 #[.pointer (some ⟨Wb, 0, none⟩), .int .i64 (q : Nat), .int .i64 (off : Nat), .int .i64 (n : Nat)] w fun e w' => e = .returned (.bool true) ∧ ∃ t', WC w0 w' Wb S d t' R k vi vb xs C ∧ Ev shP d.z 1 none9 t t' := by
  have HWA := Lib.hid h
  obtain ⟨hz1, hz2⟩ := h.wl.z16
  have hxs : x ∈ xs := List.mem_of_getElem? hq
  have hCx := h.cC x hxs
  have hxl := (h.ids hxs).2.2.2
  have hql : q < xs.length := (List.getElem?_eq_some_iff.1 hq).1
  obtain ⟨A, c, rfl, _, hI⟩ := h.wl.formI
  obtain ⟨gi, rfl, _, hlg, hci⟩ := hI (by omega)
  have hcq := hci q x hq
  obtain ⟨A2, c2, rfl, _, hB⟩ := h.wl.formB
  have q0 := h.wl.c0
  have q4 := h.wl.c4
  have lW := h.wl.ltW
  have HQ := Lib.hid hq
  have HXS := Lib.hid hxs
  have hqI : (q : Int) < (xs.length : Int) := by omega
  have HC := Lib.hid (fun (W : World) (hb : Below w.heap.size w W) => vw_read (h.vw.up hb) hR hCx hin)
  have HXL := Lib.hid hxl
  clear h hI hci hq hxs hB hxl hCx
  go_enter Try.func21, Try.ntmps21
  go_wp2
  refine wp_region_up_tail 13 (by kernel_rfl) (by kernel_rfl) (by kernel_rfl) ?_
  simp only [List.take_succ_cons, List.take_zero, List.drop_succ_cons, List.drop_zero]
  repeat (go_big_quiet_step (fail))
  refine wpQuiet_nil ?_
  rintro _ ⟨g, rfl⟩
  go_wp2_with fail
  refine (HC.out _ g.h).mono ?_
  rintro e w3 ⟨t3, A3, c3, rfl, hv3, hn3, he3, hm3, hs3, _⟩
  have HE3 := Lib.hid he3
  have HW := Lib.hid ((HWA.out.up' g.h).nx hv3 hn3)
  have HS3 := Lib.hid (sl_sby' hs3)
  have q2' := HW.out.wl.c2
  have o1 : ¬ (d.z : Int) < (off : Int) := by omega
  have o2 : ¬ (d.z : Int) - (off : Int) < (n : Int) := by omega
  clear hv3 hn3 he3 hm3 hs3 HC q0 q4 hcq hlg lW HWA
  go_upto_region 4 with (fail)
  obtain ⟨_, _, e9, _, hB⟩ := HW.out.wl.formB
  cases e9
  obtain ⟨gb, rfl, _, hlb, hcb⟩ := hB (by omega)
  have hcx := hcb q x HQ.out
  unfold Pe.v at hcx
  rw [HXL.out] at hcx
  have hby := HW.out.wl.by_ x HXS.out
  have hcap := hby.cap
  have q5 := HW.out.wl.c5
  have lW := HW.out.wl.ltW
  have HBY := Lib.hid hby
  have hse := strB_eq (secP x.b off n) (secP x.b off n)
  rw [decide_eq_true rfl] at hse
  clear hcb hB hby o1 o2 q2'
  have cv1 : ∀ g : Up w3, (convert 22 9 (.slice A3 n c3)).run Try.prog g.world = .ok (.string (strB (secP x.b off n))) g.world := fun g => (HS3.out.up g.h).str c3
  by_cases hcz : off = x.c
  · obtain rfl : n = 0 := by omega
    have cv2 : ∀ g : Up w3, (convert 22 9 (.slice (some ⟨x.B, 0, none⟩) 0 0)).run Try.prog g.world = .ok (.string (strB (secP x.b off 0))) g.world := fun g => (SBy.nil g.world (some ⟨x.B, 0, none⟩)).str 0
    refine wp_region_up (by kernel_rfl) (by kernel_rfl) ?_
    repeat (go_big_quiet_step (fail))
    refine wpQuiet_nil ?_
    rintro _ ⟨g, rfl⟩
    have HF := Lib.hid (HW.out.up' g.h)
    clear cv1 cv2 hcx q5
    go_wp2
    go_ret
    exact ⟨rfl, t3, HF.out, HE3.out⟩
  · have cv2 : ∀ g : Up w3, (convert 22 9 (.slice (some ⟨x.B, off, none⟩) n (x.c - off))).run Try.prog g.world = .ok (.string (strB (secP x.b off n))) g.world := fun g => ((HBY.out.part hin hz1).up g.h).str _
    refine wp_region_up (by kernel_rfl) (by kernel_rfl) ?_
    repeat (go_big_quiet_step (fail))
    refine wpQuiet_nil ?_
    rintro _ ⟨g, rfl⟩
    have HF := Lib.hid (HW.out.up' g.h)
    clear cv1 cv2 hcx q5
    go_wp2
    go_ret
    exact ⟨rfl, t3, HF.out, HE3.out⟩
/-- Behind both Brings: a page of the bytes L, one of nothing. -/
structure BdW (w0 w : World) (Wb S : Nat) (d : PD) (t : PSt ShS) (k : Nat) (vi vb : Value) (xs : List Pe) (C : Cn) (i1 i2 : Int) (a : Int × Int) (L : Bytes) : Prop where
  wc : WC w0 w Wb S d t True k vi vb xs C
  p1 : PutAt t i1 a
  p2 : PutAt t i2 (1073741824, 20)
  r1 : shP.rd t.s a = some L
  c1 : C i1 = some (if L.length = d.z then some L else none)
  c2 : C i2 = some none
section
variable {i1 i2 : Int}
theorem BdW.bads (h : BdW w0 w Wb S d t k vi vb xs C i1 i2 a L) : ∀ B c L, ∀ x, ∀ i, t.pm i = some x → x.bb = some (B, c, L) → L.length = d.z := fun B c L x i hx hb => ((h.wc.vw.at_.pg i x hx).bs B c L hb).len
theorem BdW.up (h : BdW w0 w Wb S d t k vi vb xs C i1 i2 a L) (hb : Below w.heap.size w w') : BdW w0 w' Wb S d t k vi vb xs C i1 i2 a L := ⟨h.wc.up' hb, h.p1, h.p2, h.r1, h.c1, h.c2⟩
theorem BdW.ev (h : BdW w0 w Wb S d t k vi vb xs C i1 i2 a L) {j : Nat} (hc : WC w0 w' Wb S d t' True k1 vi vb xs C) (he : Ev shP d.z j none9 t t') : BdW w0 w' Wb S d t' k1 vi vb xs C i1 i2 a L :=
  ⟨hc, h.p1.ev he (fun e => e), h.p2.ev he (fun e => e), he.sub _ _ h.r1, h.c1, h.c2⟩
theorem bd_read_ok (h : BdW w0 w Wb S d t (k + 1) vi vb xs C i1 i2 a L) (hl : L.length = d.z) : Calls Try.prog 15 #[.pointer (some ⟨d.Q, 0, none⟩), .int .i64 i1, .int .i64 0, .int .i64 (d.z : Nat)] w fun e w' =>
    ∃ t' A n c, e = .returned (.tuple #[.slice A n c, .int .i64 0]) ∧ BdW w0 w' Wb S d t' k vi vb xs C i1 i2 a L ∧ SlB w' (.slice A n c) L ∧ VIn (fun k => ¬ Own d t' k) (.slice A n c) := by
  have hc1 := h.c1
  rw [if_pos hl] at hc1
  refine (vw_read h.wc.vw trivial hc1 (off := 0) (n := d.z) (by omega)).mono ?_
  rintro e w' ⟨t', A, c, rfl, hv, hn, he, hm, hs, hvi⟩
  rw [secP_all hl] at hs
  exact ⟨t', A, d.z, c, rfl, h.ev (h.wc.nx hv hn) he, hs, hvi.mono fun b h => h.1⟩
theorem bd_read_bad (h : BdW w0 w Wb S d t (k + 1) vi vb xs C i1 i2 a L) (hl : L.length ≠ d.z) : Calls Try.prog 15 #[.pointer (some ⟨d.Q, 0, none⟩), .int .i64 i1, .int .i64 0, .int .i64 (d.z : Nat)] w fun e w' =>
    ∃ t', e = .returned (.tuple #[.slice none 0 0, .int .i64 20]) ∧ BdW w0 w' Wb S d t' k vi vb xs C i1 i2 a L := by
  obtain ⟨x, hx, hcx⟩ := h.p1.bad h.wc.vw.inv (fun B c L x => h.bads B c L x i1) (BadAt.sub h.r1 (SubR.refl _) hl)
  refine (vw_read_bad h.wc.vw trivial h.c1 (off := 0) (n := d.z) (by omega) hx hcx).mono ?_
  rintro e w' ⟨t', rfl, hv, hn, he, hm⟩
  exact ⟨t', rfl, h.ev (h.wc.nx hv hn) he⟩
theorem bd_gone (h : BdW w0 w Wb S d t (k + 1) vi vb xs C i1 i2 a L) : ∃ x, t.pm i2 = some x ∧ cont (shP.rd t.s) d.z x = none :=
  h.p2.bad h.wc.vw.inv (fun B c L x => h.bads B c L x i2) (gone_bad _ h.wc.wl.z16.1)
theorem bd_read2 (h : BdW w0 w Wb S d t (k + 1) vi vb xs C i1 i2 a L) : Calls Try.prog 15 #[.pointer (some ⟨d.Q, 0, none⟩), .int .i64 i2, .int .i64 0, .int .i64 (d.z : Nat)] w fun e w' =>
    ∃ t', e = .returned (.tuple #[.slice none 0 0, .int .i64 20]) ∧ BdW w0 w' Wb S d t' k vi vb xs C i1 i2 a L ∧ Nx S w w' d t t' := by
  obtain ⟨x, hx, hcx⟩ := bd_gone h
  refine (vw_read_bad h.wc.vw trivial h.c2 (off := 0) (n := d.z) (by omega) hx hcx).mono ?_
  rintro e w' ⟨t', rfl, hv, hn, he, hm⟩
  exact ⟨t', rfl, h.ev (h.wc.nx hv hn) he, hn⟩
theorem bd_write2 (h : BdW w0 w Wb S d t (k + 1) vi vb xs C i1 i2 a L) {A : Option Addr} {n cb : Nat} {b : Bytes} (hS : SBy w A n b) (hn : n ≤ d.z) (hV : VIn (fun k => ¬ Own d t k) (.slice A n cb)) : Calls Try.prog 12 #[.pointer (some ⟨d.Q, 0, none⟩), .int .i64 i2, .int .i64 0, .slice A n cb] w fun e w' =>
    ∃ t', e = .returned (.int .i64 20) ∧ BdW w0 w' Wb S d t' k vi vb xs C i1 i2 a L ∧ Nx S w w' d t t' := by
  obtain ⟨x, hx, hcx⟩ := bd_gone h
  refine (vw_write_bad h.wc.vw trivial h.c2 (off := 0) hS (by omega) hV hx hcx).mono ?_
  rintro e w' ⟨rfl, t', hv, hn, he, hm⟩
  exact ⟨t', rfl, h.ev (h.wc.nx hv hn) he, hn⟩
theorem bd_wread (h : BdW w0 w Wb S d t (k + 1) vi vb xs C i1 i2 a L) {q : Nat} {x : Pe} (hq : xs[q]? = some x) :
    Calls Try.prog 21 #[.pointer (some ⟨Wb, 0, none⟩), .int .i64 (q : Nat), .int .i64 0, .int .i64 (d.z : Nat)] w fun e w' => e = .returned (.bool true) ∧ ∃ t', BdW w0 w' Wb S d t' k vi vb xs C i1 i2 a L := by
  refine (wread_c h.wc trivial hq 0 d.z (by omega)).mono ?_
  rintro e w' ⟨rfl, t', hc, he⟩
  exact ⟨rfl, t', h.ev hc he⟩
theorem bd_drop (h : BdW w0 w Wb S d t k vi vb xs C i1 i2 a L) : Calls Try.prog 25 #[.pointer (some ⟨d.Q, 0, none⟩), .int .i64 i2] w fun e w' => e = .returned (.int .i64 0) ∧ Below w0.heap.size w0 w' := by
  obtain ⟨x, hx, _⟩ := h.p2
  refine (vw_drop h.wc.vw h.c2 (by rw [hx]; simp)).mono ?_
  rintro e w' ⟨rfl, t', hv, _⟩
  exact ⟨rfl, hv.bel⟩
/-- Bytes that were read stay so. -/
theorem slb_nx {A : Option Addr} {n c : Nat} (h : SlB w (.slice A n c) L) (hv : VIn (fun k => ¬ Own d t k) (.slice A n c)) (hn : Nx S w w' d t t') : SlB w' (.slice A n c) L ∧ VIn (fun k => ¬ Own d t' k) (.slice A n c) :=
  ⟨h.offP hn.off hv, fun b o n' c' e h0 => (hn.keep (h.inl b o n' c' e h0) (hv b o n' c' e h0)).2⟩
def RdB (w : World) (d : PD) (t : PSt ShS) (A : Option Addr) (n c : Nat) (f : Int) (L : Bytes) : Prop := (L.length = d.z ∧ SlB w (.slice A n c) L ∧ VIn (fun k => ¬ Own d t k) (.slice A n c)) ∨ (L.length ≠ d.z ∧ f = 20)
theorem RdB.nx {A : Option Addr} {n c : Nat} {f : Int} (h : RdB w d t A n c f L) (hn : Nx S w w' d t t') : RdB w' d t' A n c f L := by
  rcases h with ⟨h1, h2, h3⟩ | h
  · exact .inl ⟨h1, slb_nx h2 h3 hn⟩
  · exact .inr h
theorem RdB.up {A : Option Addr} {n c : Nat} {f : Int} (h : RdB w d t A n c f L) (hb : Below w.heap.size w w') : RdB w' d t A n c f L := by
  rcases h with ⟨h1, h2, h3⟩ | h
  · exact .inl ⟨h1, h2.up hb, h3⟩
  · exact .inr h
/-- The first Bring, as it is. -/
theorem vw_bring2 {o : Option Bytes} (h : Vw S w0 w d t C R (k + 1)) (a : Int × Int) (ho : ∀ b, o = some b → shP.rd t.s a = some b ∧ b.length = d.z) : Calls Try.prog 24 #[.pointer (some ⟨d.Q, 0, none⟩), addrV a] w fun e w' =>
    e = .returned (.int .i64 (t.nx : Nat)) ∧ ∃ t', Vw S w0 w' d t' (updC C t.nx (some o)) R k ∧ Nx S w w' d t t' ∧ Ev shP d.z 0 (· = (t.nx : Int)) t t' ∧ PutAt t' t.nx a ∧ t'.nx = t.nx + 1 ∧ t'.s = t.s := by
  refine (bringA_any (P := shP) shK_good h.at_ h.inv h.hole h.nxb a).mono ?_
  rintro e w' ⟨t', y, rfl, hs, hm, h1, h2, h3, h4, h5, h6⟩
  refine ⟨rfl, t', h.more (j := 0) hs hm (Nat.le_refl _) (fun b hb => ?_), Nx.of hs, hm.ev, ⟨y, hm.pg, h3, h2⟩, hm.nx, h6⟩
  obtain ⟨g1, g2⟩ := ho b hb
  refine ⟨?_, g2⟩
  unfold cont
  rw [h1]
  simp only
  rw [h4, h2, h6, g1]
  simp [g2]
/-- Both pages are brought. -/
theorem bd_begin {w3 w4 w5 : World} {t3 t4 t5 : PSt ShS} (h : WA w0 w Wb S d t True k vi vb xs) {k3 : Nat} (hv3 : Vw S w0 w3 d t3 (CnX xs) True k3) (hn3 : Nx S w w3 d t t3) (hnx : t3.nx = t.nx) (hr : shP.rd t3.s a = some L) {w3' : World} (hb3 : Below w3.heap.size w3 w3')
    (hn4 : Nx S w3' w4 d t3 t4) (hp4 : PutAt t4 t3.nx a) (hx4 : t4.nx = t3.nx + 1) (hs4 : t4.s = t3.s) {w4' : World} (hb4 : Below w4.heap.size w4 w4')
    {k5 : Nat} (hv5 : Vw S w0 w5 d t5 (updC (updC (CnX xs) t3.nx (some (if L.length = d.z then some L else none))) t4.nx (some none)) True k5) (hn5 : Nx S w4' w5 d t4 t5) (he5 : Ev shP d.z 0 (· = (t4.nx : Int)) t4 t5) (hp5 : PutAt t5 t4.nx (1073741824, 20)) :
    BdW w0 w5 Wb S d t5 k5 vi vb xs (updC (updC (CnX xs) t3.nx (some (if L.length = d.z then some L else none))) t4.nx (some none)) t3.nx t4.nx a L := by
  refine ⟨⟨hv5, (((((h.wl.nx hn3).up hb3).nx hn4).up hb4).nx hn5), fun x hx => ?_⟩, hp4.ev he5 (fun e => by omega), hp5, he5.sub _ _ (by rw [hs4]; exact hr), ?_, updC_same _ _ _⟩
  · have := (h.ids hx).2.1
    rw [updC_ne _ _ (by omega), updC_ne _ _ (by omega)]
    exact CnX_at h.up hx
  · rw [updC_ne _ _ (by omega), updC_same]
end
end
end Go.Proofs.Ytmipngefpedfpaa
