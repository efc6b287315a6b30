/- delta: DeltaApplies, walked. delta: DeltaSelf, walked. -/
import Derived.Test.YtgkdggidgaifhaaApZ
import Derived.Test.YtgkdggidgaifhaaDoZ
import Derived.Test.YtgkdggidgaifhaaMF
namespace Go.Proofs.Ytgkdggidgaifhaa
open Go.RowKit Go.Maps
set_option linter.unusedVariables false
set_option linter.unusedSimpArgs false
/-- A law's tree with two roots in boxes, the map of what the second tells. -/
structure AbAt (W V : World) (S T ga gb Mb : Nat) (O : Nat → Prop) (st : ShS × Int) (ra rb : Int × Int) (m1 m2 : Mp) (ps qs : Ps) : Prop where
  a : RtAt W V S T ga O st ra
  b : RtAt W V S T gb O st rb
  ta : TellsR (shRd st.1.L) ra m1
  tb : TellsR (shRd st.1.L) rb m2
  la : Lst m1 ps
  lb : Lst m2 qs
  gm : GMap V Mb m2 qs.length
  oM : Out O T Mb
  le : ps.length ≤ 200 ∧ qs.length ≤ 200
section
variable {W V V' : World} {S T ga gb Mb : Nat} {O O' : Nat → Prop} {st st' : ShS × Int} {ra rb : Int × Int} {m1 m2 : Mp} {ps qs : Ps}
theorem AbAt.off {P : Nat → Prop} (h : AbAt W V S T ga gb Mb O st ra rb m1 m2 ps qs) (ho : Off P V V') (hP : ∀ k, P k → Out O T k ∧ W.heap.size ≤ k ∧ k ≠ ga ∧ k ≠ gb ∧ k ≠ Mb) : AbAt W V' S T ga gb Mb O st ra rb m1 m2 ps qs :=
  ⟨h.a.offW ho (fun k e => ⟨(hP k e).1, (hP k e).2.1, (hP k e).2.2.1⟩), h.b.offW ho (fun k e => ⟨(hP k e).1, (hP k e).2.1, (hP k e).2.2.2.1⟩), h.ta, h.tb, h.la, h.lb,
    h.gm.off ho (fun e => (hP Mb e).2.2.2.2 rfl), h.oM, h.le⟩
theorem AbAt.up (h : AbAt W V S T ga gb Mb O st ra rb m1 m2 ps qs) (hb : Below V.heap.size V V') : AbAt W V' S T ga gb Mb O st ra rb m1 m2 ps qs :=
  h.off (P := fun _ => False) (Off.of_below hb) (fun _ e => e.elim)
theorem AbAt.getP {P : Nat → Prop} (h : AbAt W V S T ga gb Mb O st ra rb m1 m2 ps qs) {s' : ShS} (ht : TrAt (shM S) V' T O s' st.2) (hk : Like shP st.1 s') (ho : Off (fun k => O k ∨ P k) V V') (hP : ∀ k, P k → W.heap.size ≤ k ∧ k ≠ ga ∧ k ≠ gb ∧ k ≠ Mb) : AbAt W V' S T ga gb Mb O (s', st.2) ra rb m1 m2 ps qs := by
  have hl : ShL W V' S T O (s', st.2) := ⟨ht, h.a.l.hO, h.a.l.hT, hk.inn, h.a.l.bel.trans (ho.below (fun k e => e.elim (h.a.l.hO k) (fun e => (hP k e).1)) h.a.l.bel.size)⟩
  have hs : SubR (shRd st.1.L) (shRd s'.L) := by rw [show shRd s'.L = shRd st.1.L from hk.rd]; exact SubR.refl _
  exact ⟨⟨hl, h.a.box.off ho (fun e => e.elim h.a.out.1 (fun e => (hP _ e).2.1 rfl)), h.a.out, h.a.ge⟩, ⟨hl, h.b.box.off ho (fun e => e.elim h.b.out.1 (fun e => (hP _ e).2.2.1 rfl)), h.b.out, h.b.ge⟩, TellsK.mono h.ta hs, TellsK.mono h.tb hs, h.la, h.lb,
    h.gm.off ho (fun e => e.elim h.oM.1 (fun e => (hP _ e).2.2.2 rfl)), h.oM, h.le⟩
theorem AbAt.get (h : AbAt W V S T ga gb Mb O st ra rb m1 m2 ps qs) {s' : ShS} (hl : ShL W V' S T O (s', st.2)) (ho : Off O V V') (hs : SubR (shRd st.1.L) (shRd s'.L)) : AbAt W V' S T ga gb Mb O (s', st.2) ra rb m1 m2 ps qs :=
  ⟨⟨hl, h.a.box.off ho h.a.out.1, h.a.out, h.a.ge⟩, ⟨hl, h.b.box.off ho h.b.out.1, h.b.out, h.b.ge⟩, TellsK.mono h.ta hs, TellsK.mono h.tb hs, h.la, h.lb, h.gm.off ho h.oM.1, h.oM, h.le⟩
/-- Sets have been made. -/
theorem AbAt.ev (h : AbAt W V S T ga gb Mb O st ra rb m1 m2 ps qs) (hl : ShL W V' S T O' st') (k : StEv V V' T O O' st st') : AbAt W V' S T ga gb Mb O' st' ra rb m1 m2 ps qs :=
  ⟨h.a.ev hl k, h.b.ev hl k, TellsK.mono h.ta k.sub, TellsK.mono h.tb k.sub, h.la, h.lb, h.gm.off k.off (fun e => e.elim h.oM.1 h.oM.2), h.oM.ev k (MapIs.lt h.gm), h.le⟩
end
/-- The changes that are kept. -/
def fA (a : List Chg) (c : Chg) : List Chg × Bool := (a ++ [c], true)
theorem foldE_A : ∀ (cs a : List Chg), foldE fA a cs = (a ++ cs, true)
  | [], a => by simp [foldE]
  | c :: cs, a => by
    have e : foldE fA a (c :: cs) = foldE fA (a ++ [c]) cs := rfl
    rw [e, foldE_A cs]
    simp
def ivA (B : Nat) (w : World) (O : Nat → Prop) (a : List Chg) : Prop := ∃ (L : List Tc) (A : Option Addr) (c : Nat), L.map (·.1) = a ∧ RwIv elC B B w L A c ∧ ∀ k, O k ↔ rvO elC B L A L.length c k
/-- Behind a set: its root in a new box. -/
theorem ab_new {W V V' : World} {S T g10 M0 Ma : Nat} {O O' : Nat → Prop} {st st' : ShS × Int} {r0 r' : Int × Int} {m0 m' : Mp} {ps0 ps' : Ps} {N : Nat} (h10 : RtAt W V S T g10 O st r0) (g0 : GMap V M0 m0 ps0.length) (o0 : Out O T M0) (k : St12 W V V' S T O O' st st' r' Ma m' ps' N) (t : TypeId) :
    ∀ U, U = (V'.alloc (.cells #[.int .i64 r'.1, .int .i64 r'.2] t)) → RtAt W U S T g10 O' st' r0 ∧ GMap U M0 m0 ps0.length ∧ Out O' T M0 ∧ RtAt W U S T V'.heap.size O' st' r' ∧ GMap U Ma m' ps'.length ∧ Out O' T Ma ∧ U.heap.size = V'.heap.size + 1 ∧ V.heap.size ≤ Ma ∧ Ma < V'.heap.size := by
  rintro U rfl
  have a1 := h10.ev k.l k.ev
  have a2 := g0.off k.ev.off (fun e => e.elim o0.1 o0.2)
  have a3 := o0.ev k.ev (MapIs.lt g0)
  have a4 := a1.boxA r' t
  have hb1 : Below V'.heap.size V' (V'.alloc (.cells #[.int .i64 r'.1, .int .i64 r'.2] t)) := (Below.refl _ _).alloc (Nat.le_refl _) _
  exact ⟨a4.1, a2.off (S := fun _ => False) (Off.of_below hb1) id, a3, a4.2, k.mp.off (S := fun _ => False) (Off.of_below hb1) id, k.oM, by simp, k.geM, MapIs.lt k.mp⟩
set_option maxRecDepth 100000 in
set_option maxHeartbeats 16000000 in
theorem applies_walk (W : World) {A0 A1 A2 : Option Addr} {n0 n1 n2 c0 c1 c2 : Nat} {b0 b1 b2 : Nat → PArg} (h0 : Prs W A0 n0 b0) (h1 : Prs W A1 n1 b1) (h2 : Prs W A2 n2 b2) (hn0 : n0 ≤ 9223372036854775807) (hn1 : n1 ≤ 9223372036854775807) (hn2 : n2 ≤ 9223372036854775807) :
    Calls Try.prog 4 #[.slice A0 n0 c0, .slice A1 n1 c1, .slice A2 n2 c2] W (KeyPost W) := by
  have H0 := Lib.hid h0
  have H1 := Lib.hid h1
  have H2 := Lib.hid h2
  clear h0 h1 h2
  refine (callsIn_wide (n := 9)).1 ?_
  refine callsIn_of_wp_marks Try.func4 rfl trivial ?_ rfl
  simp only [Try.ntmps4, List.size_toArray, List.length_cons, List.length_nil, Nat.reduceAdd, Nat.reduceSub, Array.replicate_succ, Array.replicate_zero, List.push_toArray, List.append_toArray, List.nil_append, List.cons_append]
  refine wpIn_wide.2 ?_
  go_upto_region 3 with (go_at_call 7; refine (known12_any _).mono ?_; rintro e V1 ⟨rfl, hb1⟩; have HBW := Lib.hid hb1; clear hb1)
  have R0 := Lib.hid (right12_any (c := c0) (H0.out.up HBW.out) hn0)
  have R1 := Lib.hid (right12_any (c := c1) (H1.out.up HBW.out) hn1)
  have R2 := Lib.hid (right12_any (c := c2) (H2.out.up HBW.out) hn2)
  by_cases hr : RightL b0 n0 ∧ RightL b1 n1 ∧ RightL b2 n2
  case neg =>
    have HNO : Hid (KeyPost W (.returned (.bool true)) V1) := Lib.hid ⟨rfl, HBW.out⟩
    have fin : ∀ (Tm : Array Value), Tm.getD 6 undef = .bool true → bodyPostM Fence.wide 9 Try.prog Try.f4 (KeyPost W) .ret { tmps := Tm, defers := [] } V1 := fun Tm hT => ⟨_, results_tmp1 rfl Tm _ hT, HNO.out⟩
    have HFIN := Lib.hid fin
    clear fin HNO
    by_cases hr0 : RightL b0 n0
    · rw [decide_eq_true hr0] at R0
      by_cases hr1 : RightL b1 n1
      · rw [decide_eq_true hr1] at R1
        have hr2 : ¬ RightL b2 n2 := fun h => hr ⟨hr0, hr1, h⟩
        rw [decide_eq_false hr2] at R2
        clear hr0 hr1 hr2 hr
        go_wp2_with (go_at_call 8; first
          | ((with_reducible refine R0.out.mono ?_); rintro e V ⟨rfl, rfl⟩)
          | ((with_reducible refine R1.out.mono ?_); rintro e V ⟨rfl, rfl⟩)
          | ((with_reducible refine R2.out.mono ?_); rintro e V ⟨rfl, rfl⟩))
        exact HFIN.out _ rfl
      · rw [decide_eq_false hr1] at R1
        clear hr0 hr1 hr
        go_wp2_with (go_at_call 8; first
          | ((with_reducible refine R0.out.mono ?_); rintro e V ⟨rfl, rfl⟩)
          | ((with_reducible refine R1.out.mono ?_); rintro e V ⟨rfl, rfl⟩))
        exact HFIN.out _ rfl
    · rw [decide_eq_false hr0] at R0
      clear hr0 hr
      go_wp2_with (go_at_call 8; (with_reducible refine R0.out.mono ?_); rintro e V ⟨rfl, rfl⟩)
      exact HFIN.out _ rfl
  case pos =>
  obtain ⟨hr0, hr1, hr2⟩ := hr
  rw [decide_eq_true hr0] at R0
  rw [decide_eq_true hr1] at R1
  rw [decide_eq_true hr2] at R2
  have HR := Lib.hid (And.intro hr0 (And.intro hr1 hr2))
  clear hr0 hr1 hr2
  go_upto_region 5 with (go_at_call 8; first
    | ((with_reducible refine R0.out.mono ?_); rintro e V ⟨rfl, rfl⟩)
    | ((with_reducible refine R1.out.mono ?_); rintro e V ⟨rfl, rfl⟩)
    | ((with_reducible refine R2.out.mono ?_); rintro e V ⟨rfl, rfl⟩))
  clear R0 R1 R2
  go_upto_region 6 with (first
    | (go_at_call 10; refine (newShelf_any _).mono ?_; rintro e V2 hsh; have he1 := hsh.1; subst he1; have HSH := Lib.hid hsh; have HTN : Hid (Calls Try.prog 9 #[.iface 27 (.pointer (some ⟨V.heap.size, 0, none⟩))] V2 (TrNew (shM V.heap.size) V2 (· = V.heap.size) sh0)) := Lib.hid (treeNew_any (M := shM V.heap.size) (w := V2) (O := (· = V.heap.size)) (s := sh0) (show (shM V.heap.size).At V2 (· = V.heap.size) sh0 from hsh.2.2.2)); clear hsh)
    | (go_at_call 9; refine HTN.out.mono ?_; rintro e V3 htn; have he2 := htn.1; subst he2))
  have hl3 := shl_new (Below.refl V.heap.size V) HSH.out htn
  obtain ⟨S, hS⟩ : ∃ S, V.heap.size = S := ⟨_, rfl⟩
  obtain ⟨T, hT⟩ : ∃ T, V2.heap.size = T := ⟨_, rfl⟩
  rw [hS, hT] at hl3
  rw [hT]
  have P0 := Lib.hid (H0.out.up HBW.out)
  have P1 := Lib.hid (H1.out.up HBW.out)
  have P2 := Lib.hid (H2.out.up HBW.out)
  have HS1 := Lib.hid (set12_any (W := V) (c := c0) hl3 (r := (0, 0)) (N := 14 * n1 + (14 * n2 + 2800)) (sh0_rdy (by have := HR.out.1.2; have := HR.out.2.1.2; have := HR.out.2.2.2; omega)) (by show (-1 : Int) < 0; omega) (.inl ⟨rfl, fun _ => rfl⟩) Lst.nil (.inl ⟨rfl, rfl, rfl⟩) P0.out HR.out.1.1 HR.out.1.2)
  simp only [List.length_nil, Nat.zero_add] at HS1
  have HSH0 : Hid (V.heap.size ≤ V3.heap.size) := Lib.hid hl3.bel.size
  clear hS hT hl3 htn HTN HSH H0 H1 H2
  go_upto_region 9 with (go_at_call 11; refine HS1.out.mono ?_; rintro e V4 ⟨O4, st4, ⟨ra4, rb4⟩, M0, ps0, rfl, hle0, hk0⟩)
  have h10 : RtAt V (V4.alloc (.cells #[.int .i64 ra4, .int .i64 rb4] 30)) S T V4.heap.size O4 st4 (ra4, rb4) := ⟨(hk0.l.box (ra4, rb4) 30).1, (hk0.l.box (ra4, rb4) 30).2.1, (hk0.l.box (ra4, rb4) 30).2.2, hk0.l.bel.size⟩
  have g0 : GMap (V4.alloc (.cells #[.int .i64 ra4, .int .i64 rb4] 30)) M0 (mpZ (fun _ => none) b0 n0) ps0.length := hk0.mp.off (S := fun _ => False) (Off.of_below ((Below.refl _ _).alloc (Nat.le_refl _) _)) id
  refine wp_forget (fun U => RtAt V U S T V4.heap.size O4 st4 (ra4, rb4) ∧ GMap U M0 (mpZ (fun _ => none) b0 n0) ps0.length) ⟨h10, g0⟩ ?_
  obtain ⟨g10, hg10⟩ : ∃ g, V4.heap.size = g := ⟨_, rfl⟩
  rw [hg10]
  have HK0 := Lib.hid (show shK.Rdy st4.1 (14 * n1 + (14 * n2 + 2800)) ∧ st4.1.full < 0 ∧ TellsR (shRd st4.1.L) (ra4, rb4) (mpZ (fun _ => none) b0 n0) ∧ Lst (mpZ (fun _ => none) b0 n0) ps0 ∧ Out O4 T M0 ∧ V.heap.size ≤ M0 from ⟨hk0.rdy, hk0.full, hk0.tells, hk0.lst, hk0.oM, Nat.le_trans HSH0.out hk0.geM⟩)
  clear h10 g0 hg10 hk0 HS1
  rintro V5 ⟨h10, g0⟩
  have HS1 := Lib.hid (set12_any (W := V) (c := c1) h10.l (r := (ra4, rb4)) (N := 14 * n2 + 2800) HK0.out.1 HK0.out.2.1 HK0.out.2.2.1 HK0.out.2.2.2.1 (.inr ⟨M0, rfl, g0⟩) P1.out HR.out.2.1.1 HR.out.2.1.2)
  simp only at HS1
  have H10 := Lib.hid h10
  have HG0 := Lib.hid g0
  have d0 := h10.box.1
  have d1 := h10.box.2.1
  have ld := h10.box.lt
  simp only at d0 d1
  clear h10 g0
  go_upto_region 10 with (go_at_call 11; refine HS1.out.mono ?_; rintro e V6 ⟨O6, st6, ⟨ra6, rb6⟩, Ma, ps, rfl, hle1, hk1⟩)
  have hnew := ab_new H10.out HG0.out HK0.out.2.2.2.2.1 hk1 30 _ rfl
  simp only at hnew
  have HK1 := Lib.hid (show shK.Rdy st6.1 (14 * n2 + 2800) ∧ st6.1.full < 0 ∧ TellsR (shRd st6.1.L) (ra6, rb6) (mpZ (mpZ (fun _ => none) b0 n0) b1 n1) ∧ Lst (mpZ (mpZ (fun _ => none) b0 n0) b1 n1) ps ∧ SubR (shRd st4.1.L) (shRd st6.1.L) ∧ ps0.length ≤ 100 ∧ ps.length ≤ 200 from ⟨hk1.rdy, hk1.full, hk1.tells, hk1.lst, hk1.ev.sub, by have := HR.out.1.2; omega, by have := HR.out.1.2; have := HR.out.2.1.2; omega⟩)
  have HV6 : Hid (V.heap.size ≤ V6.heap.size) := Lib.hid hk1.l.bel.size
  refine wp_forget (fun U => RtAt V U S T g10 O6 st6 (ra4, rb4) ∧ GMap U M0 (mpZ (fun _ => none) b0 n0) ps0.length ∧ Out O6 T M0 ∧ RtAt V U S T V6.heap.size O6 st6 (ra6, rb6) ∧ U.heap.size = V6.heap.size + 1) ⟨hnew.1, hnew.2.1, hnew.2.2.1, hnew.2.2.2.1, hnew.2.2.2.2.2.2.1⟩ ?_
  clear hnew hk1 HS1 d0 d1 ld H10 HG0
  rintro V7 ⟨h10, g0, oM0, h11, hs7⟩
  obtain ⟨g11, hg11⟩ : ∃ g, V6.heap.size = g := ⟨_, rfl⟩
  rw [hg11] at h11
  rw [hg11]
  have HS1 := Lib.hid (set12_any (W := V) (c := c2) h10.l (r := (ra4, rb4)) (N := 2800) HK1.out.1 HK1.out.2.1 (TellsK.mono HK0.out.2.2.1 HK1.out.2.2.2.2.1) HK0.out.2.2.2.1 (.inr ⟨M0, rfl, g0⟩) P2.out HR.out.2.2.1 HR.out.2.2.2)
  simp only at HS1
  have H11 := Lib.hid h11
  have H10 := Lib.hid h10
  have HG0 := Lib.hid g0
  have HO7 := Lib.hid oM0
  have HN7 := Lib.hid (show V7.heap.size = g11 + 1 ∧ V.heap.size ≤ g11 by have := HV6.out; omega)
  have d0 := h10.box.1
  have d1 := h10.box.2.1
  have ld := h10.box.lt
  simp only at d0 d1
  clear h10 g0 oM0 h11 hs7 hg11
  go_upto_region 11 with (go_at_call 11; refine HS1.out.mono ?_; rintro e V8 ⟨O8, st8, ⟨ra8, rb8⟩, Mb, qs, rfl, hle2, hk2⟩)
  have hnew := ab_new H10.out HG0.out HO7.out hk2 30 _ rfl
  simp only at hnew
  have hnm : shK.Rdy st8.1 2800 ∧ st8.1.full < 0 ∧ V7.heap.size ≤ Mb ∧ Mb < V8.heap.size ∧ V7.heap.size ≤ V8.heap.size := ⟨hk2.rdy, hk2.full, hnew.2.2.2.2.2.2.2.1, hnew.2.2.2.2.2.2.2.2, hk2.ev.off.size⟩
  have hAB : ∀ U, (RtAt V U S T V8.heap.size O8 st8 (ra8, rb8) ∧ GMap U Mb (mpZ (mpZ (fun _ => none) b0 n0) b2 n2) qs.length ∧ Out O8 T Mb ∧ Below V8.heap.size V8 U) → AbAt V U S T g11 V8.heap.size Mb O8 st8 (ra6, rb6) (ra8, rb8) (mpZ (mpZ (fun _ => none) b0 n0) b1 n1) (mpZ (mpZ (fun _ => none) b0 n0) b2 n2) ps qs := fun U ⟨u1, u2, u3, u6⟩ =>
    ⟨(H11.out.ev hk2.l hk2.ev).up u6, u1, TellsK.mono HK1.out.2.2.1 hk2.ev.sub, hk2.tells, HK1.out.2.2.2.1, hk2.lst, u2, u3, HK1.out.2.2.2.2.2.2, by have := HK1.out.2.2.2.2.2.1; have := HR.out.2.2.2; omega⟩
  refine wp_forget (fun U => AbAt V U S T g11 V8.heap.size Mb O8 st8 (ra6, rb6) (ra8, rb8) (mpZ (mpZ (fun _ => none) b0 n0) b1 n1) (mpZ (mpZ (fun _ => none) b0 n0) b2 n2) ps qs ∧ U.heap.size = V8.heap.size + 1) ⟨hAB _ ⟨hnew.2.2.2.1, hnew.2.2.2.2.1, hnew.2.2.2.2.2.1, (Below.refl _ _).alloc (Nat.le_refl _) _⟩, hnew.2.2.2.2.2.2.1⟩ ?_
  clear hnew hk2 HS1 d0 d1 ld H10 HG0 H11 hAB
  rintro V9 ⟨hab, hs9⟩
  obtain ⟨g14, hg14⟩ : ∃ g, V8.heap.size = g := ⟨_, rfl⟩
  rw [hg14] at hab
  rw [hg14]
  have HNE := Lib.hid (show V.heap.size ≤ g11 ∧ g11 < Mb ∧ Mb < g14 ∧ V9.heap.size = g14 + 1 by have := HN7.out; omega)
  have HAB := Lib.hid hab
  have HO8 : Hid ((∀ k, O8 k → k < V9.heap.size ∧ V.heap.size ≤ k) ∧ T < V9.heap.size ∧ V.heap.size ≤ T) := Lib.hid ⟨fun k hk => ⟨(shM S).lt hab.a.l.tr.at_ hk, hab.a.l.hO k hk⟩, hab.a.l.tr.lt, hab.a.l.hT⟩
  have HRD := Lib.hid hnm.1
  have HFU := Lib.hid hnm.2.1
  generalize mpZ (mpZ (fun _ => none) b0 n0) b1 n1 = m1 at *
  generalize mpZ (mpZ (fun _ => none) b0 n0) b2 n2 = m2 at *
  clear hab hs9 hg14 hnm HN7 HO7 HK0 HK1 HV6 P0 P1 P2 HR hle0 hle1 hle2 hn0 hn1 hn2
  have hci := merge_is HAB.out.la HAB.out.lb (Nat.le_refl _)
  obtain ⟨cs, hcs⟩ : ∃ cs, chgs ps qs = cs := ⟨_, rfl⟩
  have hci2 : ChgIs m1 m2 cs := by rw [← hcs]; exact hci
  have HCI := Lib.hid hci2
  have HCS := Lib.hid hcs
  have HCL : Hid (cs.length ≤ 400) := Lib.hid (by have := mergeN_len (ps.length + qs.length) ps qs; have := HAB.out.le; rw [← hcs]; unfold chgs; omega)
  clear hci hcs hci2
  go_upto_region 14 with (fail)
  have hal : Below V9.heap.size V9 (V9.alloc (.cells #[.slice none 0 0] 48)) := (Below.refl _ _).alloc (Nat.le_refl _) _
  refine wp_forget (fun U => AbAt V U S T g11 g14 Mb O8 st8 (ra6, rb6) (ra8, rb8) m1 m2 ps qs ∧ (U.cell? ⟨V9.heap.size, 0, none⟩ = some (.slice none 0 0) ∧ U.frozen? ⟨V9.heap.size, 0, none⟩ = false) ∧ U.heap.size = V9.heap.size + 1) ⟨HAB.out.up hal, alloc_at V9 (.slice none 0 0) 48, by simp⟩ ?_
  obtain ⟨g17, hg17⟩ : ∃ g, V9.heap.size = g := ⟨_, rfl⟩
  rw [hg17]
  clear hal HAB
  rintro V10 ⟨hab, ⟨c17, f17⟩, hs10⟩
  have HAB := Lib.hid hab
  have H17 := Lib.hid (And.intro c17 f17)
  have d0 := hab.a.box.1
  have d1 := hab.a.box.2.1
  have d2 := hab.b.box.1
  have d3 := hab.b.box.2.1
  have la := hab.a.box.lt
  have lb := hab.b.box.lt
  simp only at d0 d1 d2 d3
  have HKY := Lib.hid (keys_any V10 T (ra6, rb6) (ra8, rb8))
  simp only at HKY
  have HS10 := Lib.hid hs10
  have HG17 := Lib.hid hg17
  clear hab c17 f17 hs10 hg17
  go_wp2_with (go_at_call 13; refine HKY.out.mono ?_; rintro e V11 ⟨rfl, hb11, hs11, q3, q4, q5⟩)
  obtain ⟨k3, hk3⟩ : ∃ g, V10.heap.size = g := ⟨_, rfl⟩
  rw [hk3] at q3 q4 q5 hs11 ⊢
  have HNK := Lib.hid (show k3 = g17 + 1 ∧ V11.heap.size = k3 + 3 ∧ V9.heap.size = g17 by have := HS10.out; have := HG17.out; omega)
  have HAB1 := Lib.hid (HAB.out.up hb11)
  have c17 := (hb11.cell (p := ⟨g17, 0, none⟩) (lt_of_cell H17.out.1)).trans H17.out.1
  have f17 := (hb11.frozen (p := ⟨g17, 0, none⟩) (lt_of_cell H17.out.1)).trans H17.out.2
  have HIV0 : Hid (ivA g17 V11 (fun k => k = g17) []) := Lib.hid ⟨[], none, 0, rfl, ⟨c17, f17, World.ownsRow_nil _ _ _ _, by simp, by have := HNK.out; omega, ⟨by simp [Value.ownBlock], by rintro ⟨x, hx, _⟩; simp at hx⟩, fun k e => by simp [Value.ownBlock] at e⟩, fun k => by
    unfold rvO rwO
    simp [Value.ownBlock]⟩
  clear d0 d1 d2 d3 la lb HKY HAB hb11 hs11 HS10 HG17 hk3 H17 c17 f17
  refine (wpIn_wide (n := 9)).1 ?_
  refine range_keys (S := S) (T := T) (O := O8) (st := st8) (Ov := fun k => k = g17) rfl rfl HAB1.out.a.l.tr HAB1.out.a.l.inn (shK_good.mono _ _ _ HRD.out (by omega)) HAB1.out.ta HAB1.out.tb HAB1.out.la HAB1.out.lb (by have := HAB1.out.le; omega) (by have := HAB1.out.le; omega) HCS.out q3 q4 q5
    fA (fun _ => true) (fun _ _ _ => rfl) (fun a n => a.length + n ≤ 33554432) (fun a n m h hm => by omega) (fun a e n h => by simp only [fA, List.length_append, List.length_cons, List.length_nil]; omega) (ivA g17) (fun _ _ _ _ => False)
    (fun {S O w w' x} h ho hs => by
      obtain ⟨L, A, c, e, hi, hO⟩ := h
      exact ⟨L, A, c, e, hi.off ho (fun k hk e2 => hs k hk ((hO k).2 e2)), hO⟩) (fun {O w x k} h hk => by
      obtain ⟨L, A, c, e, hi, hO⟩ := h
      exact hi.lt ((hO k).1 hk)) (fun {c S O w w' x} h _ _ => h) (fun {c O w x k} h _ => h.elim)
    [] (by have := HAB1.out.le; simp only [List.length_nil]; omega) rfl HIV0.out (fun k hk e => by have := HO8.out.1 k hk; have := HNK.out; omega) (fun e => by have := HO8.out.2; have := HNK.out; omega) ?round ?fin
  case round =>
    intro l x e vs W1 O1 hO1 hl hnl _ hrd ha
    obtain ⟨ck, o, wv⟩ := e
    obtain ⟨v1, v2, rfl, hck, ⟨x1, x2, x3, rfl, _, _⟩, ⟨y1, y2, y3, rfl, _, _⟩, hl1, hl2, hv1, hv2, _⟩ := ha
    simp only at hck hl1 hl2
    gi_wp2
    refine ⟨(Below.refl W1.heap.size W1).alloc (Nat.le_refl _) _, fun W2 ho hiv hA => ?_⟩
    obtain ⟨L, A, c, rfl, hI, hO⟩ := hiv
    obtain ⟨v1, v2, e, _, hsA, hsB, _⟩ := hA
    simp only [Array.mk.injEq, List.cons.injEq, Value.agg.injEq, true_and, and_true] at e
    obtain ⟨rfl, rfl⟩ := e
    have hsl : ∀ j u, [Value.int .i64 (ck : Nat), .slice x1 x2 x3, .slice y1 y2 y3, .bool o.isSome, .bool wv.isSome][j]? = some u → W2.cell? ⟨W1.heap.size, j, none⟩ = some u := fun j u hj => (ho.cell (p := ⟨W1.heap.size, j, none⟩) (by simp) (fun e => by have : W1.heap.size = l := e; omega)).trans ((Bx.new W1 40 [Value.int .i64 (ck : Nat), .slice x1 x2 x3, .slice y1 y2 y3, .bool o.isSome, .bool wv.isSome] (by simp)).c j u hj)
    have s0 := hsl 0 _ rfl
    have s1 := hsl 1 _ rfl
    have s2 := hsl 2 _ rfl
    have s3 := hsl 3 _ rfl
    have s4 := hsl 4 _ rfl
    have ls := lt_of_cell s0
    have cB := hI.box
    have lB := lt_of_cell cB
    have hlenL : L.length + 1 ≤ 33554432 := by simpa using hrd
    obtain ⟨A', c', w', hr1, hcB, hn, ho2, hg2⟩ := hI.next (x := (((ck, o, wv) : Chg), Value.slice x1 x2 x3, Value.slice y1 y2 y3)) (g := W2.heap.size) ((Below.refl W2.heap.size W2).alloc (Nat.le_refl _) (.cells #[.int .i64 (ck : Nat), .slice x1 x2 x3, .slice y1 y2 y3, .bool o.isSome, .bool wv.isSome] 40))
      (fun j u hj => (Bx.new W2 40 [Value.int .i64 (ck : Nat), .slice x1 x2 x3, .slice y1 y2 y3, .bool o.isSome, .bool wv.isSome] (by simp)).c j u hj) ⟨hsA, hsB, hck, hl1, hl2⟩ (fun k hk e => hk.elim (fun h => hv1.blk h ((hO k).2 e)) (fun h => hv2.blk h ((hO k).2 e))) (by omega) 48
    have fB : w'.frozen? ⟨g17, 0, none⟩ = false := by have := hn.fz; rwa [World.frozen?_setCell] at this
    have lB' := lt_of_cell hcB
    have HN := Lib.hid hn
    have HO2 := Lib.hid ho2
    have HG2 := Lib.hid hg2
    have HO := Lib.hid hO
    clear hn ho2 hg2 hO hI hsA hsB ho hsl hO1 hrd hv1 hv2 hl1 hl2
    gi_wp2_with (gi_at_builtin; go_must (refine wpListIn_append_run rfl (.tmp 86) (.tmp 88) 48 rfl _ _ rfl rfl hr1 ?_))
    have hsz := HO2.out.size
    refine ⟨rfl, rvO elC g17 (L ++ [(((ck, o, wv) : Chg), Value.slice x1 x2 x3, Value.slice y1 y2 y3)]) A' (L ++ [(((ck, o, wv) : Chg), Value.slice x1 x2 x3, Value.slice y1 y2 y3)]).length c', ⟨_, A', c', by simp [fA], HN.out, fun k => Iff.rfl⟩, HO2.out.mono fun k e => .inl ((HO.out k).2 e), fun k e => ?_⟩
    rcases HG2.out k e with e | e | e
    · exact .inl ((HO.out k).2 e)
    · exact .inr (.inl ⟨_, _, _, _, _, rfl, e⟩)
    · exact .inr (.inr (by omega))
  case fin =>
    intro D W1 O1 hD hdf hky hof hO1 hOD
    refine ⟨fun _ hiv => ?_, fun hal => by cases hal⟩
    rw [foldE_A, List.nil_append] at hiv
    obtain ⟨L, A, c, hLe, hI, hO⟩ := hiv
    obtain ⟨s9, ht9, hk9, hr9⟩ := hky
    replace hLe : L.map (·.1) = cs := hLe
    have hlen : L.length = cs.length := by rw [← hLe, List.length_map]
    have HDV : Hid (V.heap.size ≤ D) := Lib.hid (by have := HNK.out; have := HNE.out; omega)
    have HDM : Hid (D ≠ Mb) := Lib.hid (by have := HNK.out; have := HNE.out; omega)
    have HLL : Hid (L.length ≤ 400) := Lib.hid (by have := HCL.out; omega)
    have hab9 := HAB1.out.getP ht9 hk9 hof (fun k e => by have := HNE.out; have := HNK.out; omega)
    have HAB9 := Lib.hid hab9
    have hapi : apI (cfT L) m1 L.length = m2 := apI_all HCI.out hLe
    have c17 := hI.box
    have l17 := lt_of_cell c17
    have hf9 : s9.full < 0 := by
      rw [show s9.full = st8.1.full from hk9.room]
      exact HFU.out
    have HAP := Lib.hid (apply_law (W := V) (w := W1) (N := 0) (c := c) hab9.a.l (shK_good.mono _ _ _ (hr9 2800 HRD.out) (by have := HLL.out; omega)) hf9 hab9.ta hI.ls.1 (by have := HLL.out; omega) (fun k hk e => by
      have h1 := hO1 k ((hO k).2 (hI.ls.2 k hk))
      have := HNK.out
      rcases e with e | e
      · have := HO8.out.1 k e; omega
      · have := HO8.out.2; omega))
    rw [hapi] at HAP
    simp only at HAP
    have HD := Lib.hid (show W1.heap[D]? = some (.deferred (some [])) ∧ Out O8 T D ∧ V11.heap.size ≤ D from ⟨hdf, ⟨fun e => by have := HO8.out.1 D e; have := HNK.out; omega, by have := HO8.out.2; have := HNK.out; omega⟩, hD⟩)
    have d0 := hab9.a.box.1
    have d1 := hab9.a.box.2.1
    have la := hab9.a.box.lt
    simp only at d0 d1
    clear hapi hab9 hI hO ht9 hk9 hr9 hof hO1 hOD hdf hD hLe hlen hf9 HAB1 HIV0 q3 q4 q5
    go_upto_region 18 with (go_at_call 16; refine HAP.out.mono ?_; rintro e W2 ⟨O2, st2, ⟨x1, x2⟩, rfl, _, hap⟩)
    have HD2 := Lib.hid (show W2.heap[D]? = some (.deferred (some [])) ∧ Out O2 T D ∧ V11.heap.size ≤ D from ⟨heap_off HD.out.1 hap.ev.off (fun e => e.elim HD.out.2.1.1 HD.out.2.1.2), HD.out.2.1.ev hap.ev (Array.getElem?_eq_some_iff.1 HD.out.1).1, HD.out.2.2⟩)
    have hab2 := HAB9.out.ev hap.l hap.ev
    have hx2 := hab2.a.boxA (x1, x2) 30
    have hab3 := hab2.up ((Below.refl W2.heap.size W2).alloc (Nat.le_refl _) (.cells #[.int .i64 x1, .int .i64 x2] 30))
    have HS2 := Lib.hid (show shK.Rdy st2.1 0 ∧ st2.1.full < 0 ∧ TellsR (shRd st2.1.L) (x1, x2) m2 from ⟨hap.rdy, hap.full, hap.tells⟩)
    have hsz2 : V.heap.size ≤ W2.heap.size := hap.l.bel.size
    refine wp_forget (fun U => AbAt V U S T g11 g14 Mb O2 st2 (ra6, rb6) (ra8, rb8) m1 m2 ps qs ∧ RtAt V U S T W2.heap.size O2 st2 (x1, x2) ∧ U.heap[D]? = some (.deferred (some [])) ∧ U.heap.size = W2.heap.size + 1) ⟨hab3, hx2.2, heap_off HD2.out.1 (S := fun _ => False) (Off.of_below ((Below.refl _ _).alloc (Nat.le_refl _) _)) id, by simp⟩ ?_
    obtain ⟨g19, hg19⟩ : ∃ g, W2.heap.size = g := ⟨_, rfl⟩
    have HN19 : Hid (g14 < g19 ∧ Mb < g19 ∧ D < g19 ∧ g11 < g19) := Lib.hid (by
      have h1 := hab2.a.box.lt
      have h2 := hab2.b.box.lt
      have h3 := MapIs.lt hab2.gm
      have h4 := (Array.getElem?_eq_some_iff.1 HD2.out.1).1
      omega)
    rw [hg19]
    clear hab2 hx2 hab3 hsz2 hg19 hap HAP d0 d1 la l17 c17 HAB9 HD
    rintro W3 ⟨hab3, hx3, hd3, hs3⟩
    have HAB3 := Lib.hid hab3
    have HX3 := Lib.hid hx3
    have HD3 := Lib.hid (And.intro hd3 HD2.out.2)
    have HS3 := Lib.hid hs3
    have HAP := Lib.hid (apply_law (W := V) (w := W3) (N := 0) (L := []) (A := none) (c := 0) (r := (ra8, rb8)) hab3.a.l (shK_good.mono _ _ _ HS2.out.1 (by simp)) HS2.out.2.1 hab3.tb ⟨by simp, by simp⟩ (by simp) (fun k hk e => by
      rcases hk with ⟨h, _⟩ | ⟨x, hx, _⟩
      · simp at h
      · simp at hx))
    simp only [List.length_nil] at HAP
    have d0 := hab3.b.box.1
    have d1 := hab3.b.box.2.1
    have la := hab3.b.box.lt
    simp only at d0 d1
    clear hab3 hx3 hd3 hs3 HD2
    go_upto_region 19 with (go_at_call 16; refine HAP.out.mono ?_; rintro e W4 ⟨O4b, st4b, ⟨y1, y2⟩, rfl, hy, hap⟩; obtain ⟨rfl, rfl⟩ : y1 = ra8 ∧ y2 = rb8 := by simpa using hy)
    have hab4 := HAB3.out.ev hap.l hap.ev
    have hx4 := HX3.out.ev hap.l hap.ev
    have hd4 := heap_off HD3.out.1 hap.ev.off (fun e => e.elim HD3.out.2.1.1 HD3.out.2.1.2)
    have HOD4 := Lib.hid (HD3.out.2.1.ev hap.ev (Array.getElem?_eq_some_iff.1 HD3.out.1).1)
    have HS4 := Lib.hid (show shK.Rdy st4b.1 0 ∧ TellsR (shRd st4b.1.L) (x1, x2) m2 from ⟨hap.rdy, TellsK.mono HS2.out.2.2 hap.ev.sub⟩)
    have hal : Below W4.heap.size W4 (W4.alloc (.cells #[.int .i64 y1, .int .i64 y2] 30)) := (Below.refl _ _).alloc (Nat.le_refl _) _
    have HL34 : Hid (W3.heap.size ≤ W4.heap.size) := Lib.hid hap.ev.off.size
    refine wp_forget (fun U => AbAt V U S T g11 g14 Mb O4b st4b (ra6, rb6) (y1, y2) m1 m2 ps qs ∧ RtAt V U S T g19 O4b st4b (x1, x2) ∧ U.heap[D]? = some (.deferred (some [])) ∧ RtAt V U S T W4.heap.size O4b st4b (y1, y2)) ⟨hab4.up hal, hx4.up hal, heap_off hd4 (S := fun _ => False) (Off.of_below hal) id, (hab4.a.boxA (y1, y2) 30).2⟩ ?_
    obtain ⟨g21, hg21⟩ : ∃ g, W4.heap.size = g := ⟨_, rfl⟩
    have HN21 : Hid (g19 < g21 ∧ Mb < g21 ∧ D < g21) := Lib.hid (by
      have := HS3.out
      have := HN19.out
      have := HL34.out
      omega)
    rw [hg21]
    clear hab4 hx4 hd4 hal hg21 hap HAP d0 d1 la HAB3 HX3 hy
    rintro W5 ⟨hab5, hx5, hd5, hy5⟩
    have HAB5 := Lib.hid hab5
    have HX5 := Lib.hid hx5
    have HY5 := Lib.hid hy5
    have HD5 := Lib.hid (And.intro hd5 HOD4.out)
    have HSM := Lib.hid (dsame_law (r1 := (x1, x2)) (r2 := (y1, y2)) hab5.a.l HS4.out.1 HS4.out.2 hab5.tb hab5.lb hab5.lb (by have := hab5.le; omega) (by have := hab5.le; omega))
    have hnone : (chgs qs qs).length = 0 := by
      have h1 := merge_is hab5.lb hab5.lb (Nat.le_refl _)
      have h2 : chgs qs qs = [] := by
        cases e : chgs qs qs with
        | nil => rfl
        | cons c cs' =>
          obtain ⟨k, o, n⟩ := c
          have h3 := (h1.mem k o n).1 (by show _ ∈ chgs qs qs; rw [e]; simp)
          exact absurd rfl h3.2.2
      rw [h2]
      rfl
    rw [decide_eq_true hnone] at HSM
    simp only at HSM
    have d0 := hx5.box.1
    have d1 := hx5.box.2.1
    have la := hx5.box.lt
    have d2 := hab5.b.box.1
    have d3 := hab5.b.box.2.1
    have lb := hab5.b.box.lt
    simp only at d0 d1 d2 d3
    clear hab5 hx5 hd5 hy5 hnone HD3 HOD4
    go_upto_region 20 with (go_at_call 15; refine HSM.out.mono ?_; rintro e W6 ⟨rfl, s6, hk6⟩)
    have HAB6 := Lib.hid (HAB5.out.get hk6.l hk6.off hk6.aft.sub)
    have hd6 := heap_off HD5.out.1 hk6.off HD5.out.2.1
    have HD6 := Lib.hid (And.intro hd6 HD5.out.2)
    have HR6 := Lib.hid (hk6.rdy 0 HS4.out.1)
    have hb6 := HX5.out.box.off hk6.off HX5.out.out.1
    have hb7 := HY5.out.box.off hk6.off HY5.out.out.1
    have HSA := Lib.hid (same_any (r := (x1, x2)) HAB6.out.a.l HR6.out (TellsK.mono HS4.out.2 hk6.aft.sub) HAB6.out.lb (by have := HAB6.out.le; omega) HAB6.out.gm HAB6.out.oM (by have := HNE.out; omega))
    simp only at HSA
    clear d0 d1 d2 d3 la lb hd6 hk6 HSM HX5 HY5 HAB5 HD5
    have d0 := hb6.1
    have d1 := hb6.2.1
    have la := hb6.lt
    have d2 := HAB6.out.b.box.1
    have d3 := HAB6.out.b.box.2.1
    have lb := HAB6.out.b.box.lt
    have d4 := hb7.1
    have d5 := hb7.2.1
    have lc := hb7.lt
    simp only at d0 d1 d2 d3 d4 d5
    clear hb6 hb7
    go_wp2_with (go_at_call 17; refine HSA.out.mono ?_; rintro e W7 ⟨rfl, s7, hk7⟩)
    have hd7 := heap_off HD6.out.1 hk7.off (fun e => e.elim HD6.out.2.1 HDM.out)
    have hbw : Below W.heap.size W W7 := HBW.out.trans (hk7.l.bel.mono HBW.out.size)
    have p1 := off_putObj W7 (l := D) (.deferred none)
    refine leaves_end hd7 (results_tmp1 rfl _ _ rfl) ⟨rfl, hbw.trans (p1.below (fun k e => ?_) hbw.size)⟩
    have h1 := HDV.out
    have h2 := HBW.out.size
    have e' : k = D := e
    omega
end Go.Proofs.Ytgkdggidgaifhaa
namespace Go.Proofs.Ytgkdggidgaifhaa
open Go.RowKit Go.Maps Go.Lib
set_option linter.unusedVariables false
set_option linter.unusedSimpArgs false
theorem nodL_len (v : Vs) : (nodL v).length ≤ v.length := by
  unfold nodL compactUpTo
  rw [List.length_map]
  refine Nat.le_trans (List.length_filter_le _ _) ?_
  simp [sortL_len]
theorem nodeV_le {st : ShS} {r : Int × Int} {m : Mp} {ps : Ps} (hm : TellsR (shRd st.L) r m) (hp : Lst m ps) (hl : ps.length ≤ 149796) : ∃ vs, NodeV (shRd st.L) r vs ∧ (nodL vs).length ≤ 1048576 := by
  obtain ⟨vs, h1, h⟩ := nodes_list shP (s := st) hm hp hl
  exact ⟨vs, h, Nat.le_trans (nodL_len vs) (by omega)⟩
theorem chgs_self {m : Mp} {ps : Ps} (h : Lst m ps) : (chgs ps ps).length = 0 := by
  have h1 := merge_is h h (Nat.le_refl _)
  have h2 : chgs ps ps = [] := by
    cases e : chgs ps ps with
    | nil => rfl
    | cons c cs' =>
      obtain ⟨k, o, n⟩ := c
      have h3 := (h1.mem k o n).1 (by show _ ∈ chgs ps ps; rw [e]; simp)
      exact absurd rfl h3.2.2
  rw [h2]
  rfl
theorem chgs_nil {m : Mp} {ps : Ps} (h : Lst m ps) : (chgs [] ps).length = ps.length := by
  have h1 := merge_is Lst.nil h (Nat.le_refl _)
  have h2 := chg_count Lst.nil h h1
  have h3 : ps.filter (fun y => decide ((fun _ : Nat => (none : Option Bytes)) y.1 = none)) = ps := by simp
  show (mergeN _ [] ps).length = _
  rw [h2, h3]
  simp
theorem only_self (L : Vs) : (onlyL L L).length = 0 := by
  unfold onlyL
  rw [List.filter_eq_nil_iff.2 (fun x hx => by simpa using hx)]
  rfl
theorem only_none (L : Vs) : onlyL (nodL []) L = L := by
  unfold onlyL
  simp [nodL, sortL, compactUpTo]
set_option maxRecDepth 100000 in
set_option maxHeartbeats 16000000 in
theorem self_walk (W : World) {A0 : Option Addr} {n0 c0 : Nat} {b0 : Nat → PArg} (h0 : Prs W A0 n0 b0) (hn0 : n0 ≤ 9223372036854775807) :
    Calls Try.prog 5 #[.slice A0 n0 c0] W (KeyPost W) := by
  have H0 := Lib.hid h0
  clear h0
  go_enter Try.func5, Try.ntmps5
  go_upto_region 3 with (go_at_call 7; refine (known12_any _).mono ?_; rintro e V1 ⟨rfl, hb1⟩; have HBW := Lib.hid hb1; clear hb1)
  have R0 := Lib.hid (right12_any (c := c0) (H0.out.up HBW.out) hn0)
  by_cases hr : RightL b0 n0
  case neg =>
    rw [decide_eq_false hr] at R0
    clear hr
    go_wp2_with (go_at_call 8; (with_reducible refine R0.out.mono ?_); rintro e V ⟨rfl, rfl⟩)
    go_ret
    exact ⟨rfl, HBW.out⟩
  rw [decide_eq_true hr] at R0
  have HR := Lib.hid hr
  clear hr
  go_upto_region 5 with (go_at_call 8; (with_reducible refine R0.out.mono ?_); rintro e V ⟨rfl, rfl⟩)
  clear R0
  go_upto_region 6 with (first
    | (go_at_call 10; refine (newShelf_any _).mono ?_; rintro e V2 hsh; have he1 := hsh.1; subst he1; have HSH := Lib.hid hsh; have HTN : Hid (Calls Try.prog 9 #[.iface 27 (.pointer (some ⟨V.heap.size, 0, none⟩))] V2 (TrNew (shM V.heap.size) V2 (· = V.heap.size) sh0)) := Lib.hid (treeNew_any (M := shM V.heap.size) (w := V2) (O := (· = V.heap.size)) (s := sh0) (show (shM V.heap.size).At V2 (· = V.heap.size) sh0 from hsh.2.2.2)); clear hsh)
    | (go_at_call 9; refine HTN.out.mono ?_; rintro e V3 htn; have he2 := htn.1; subst he2))
  have hl3 := shl_new (Below.refl V.heap.size V) HSH.out htn
  obtain ⟨S, hS⟩ : ∃ S, V.heap.size = S := ⟨_, rfl⟩
  obtain ⟨T, hT⟩ : ∃ T, V2.heap.size = T := ⟨_, rfl⟩
  rw [hS, hT] at hl3
  rw [hT]
  have HS1 := Lib.hid (set12_any (W := V) (c := c0) hl3 (r := (0, 0)) (N := 0) (sh0_rdy (by have := HR.out.2; omega)) (by show (-1 : Int) < 0; omega) (.inl ⟨rfl, fun _ => rfl⟩) Lst.nil (.inl ⟨rfl, rfl, rfl⟩) (H0.out.up HBW.out) HR.out.1 HR.out.2)
  simp only [List.length_nil, Nat.zero_add] at HS1
  have HSH0 : Hid (V.heap.size ≤ V3.heap.size) := Lib.hid hl3.bel.size
  clear hS hT hl3 htn HTN HSH H0
  go_upto_region 9 with (go_at_call 11; refine HS1.out.mono ?_; rintro e V4 ⟨O4, st4, ⟨ra4, rb4⟩, M0, ps0, rfl, hle0, hk0⟩)
  have h10 : RtAt V (V4.alloc (.cells #[.int .i64 ra4, .int .i64 rb4] 30)) S T V4.heap.size O4 st4 (ra4, rb4) := ⟨(hk0.l.box (ra4, rb4) 30).1, (hk0.l.box (ra4, rb4) 30).2.1, (hk0.l.box (ra4, rb4) 30).2.2, hk0.l.bel.size⟩
  have g0 : GMap (V4.alloc (.cells #[.int .i64 ra4, .int .i64 rb4] 30)) M0 (mpZ (fun _ => none) b0 n0) ps0.length := hk0.mp.off (S := fun _ => False) (Off.of_below ((Below.refl _ _).alloc (Nat.le_refl _) _)) id
  refine wp_forget (fun U => RtAt V U S T V4.heap.size O4 st4 (ra4, rb4) ∧ GMap U M0 (mpZ (fun _ => none) b0 n0) ps0.length) ⟨h10, g0⟩ ?_
  obtain ⟨g10, hg10⟩ : ∃ g, V4.heap.size = g := ⟨_, rfl⟩
  rw [hg10]
  have HTL := Lib.hid hk0.tells
  have HLS := Lib.hid hk0.lst
  have HOM := Lib.hid hk0.oM
  have HRD := Lib.hid hk0.rdy
  have HLE : Hid (ps0.length ≤ 100) := Lib.hid (by have := HR.out.2; omega)
  generalize mpZ (fun _ => none) b0 n0 = m at *
  clear h10 g0 hg10 hk0 HS1 HR hle0
  rintro V5 ⟨h5, g5⟩
  have d0 := h5.box.1
  have d1 := h5.box.2.1
  have ld := h5.box.lt
  simp only at d0 d1
  have HG5 := Lib.hid g5
  have H5 := Lib.hid h5
  have HC := Lib.hid (count_law (r1 := (ra4, rb4)) (r2 := (ra4, rb4)) h5.l HRD.out HTL.out HTL.out HLS.out HLS.out (by have := HLE.out; omega) (by have := HLE.out; omega))
  simp only at HC
  rw [chgs_self HLS.out] at HC
  clear h5 g5
  go_upto_region 12 with (go_at_call 14; refine HC.out.mono ?_; rintro e V6 ⟨rfl, s6, hk6⟩)
  have H6 : Hid (RtAt V V6 S T g10 O4 (s6, st4.2) (ra4, rb4)) := Lib.hid ⟨hk6.l, H5.out.box.off hk6.off H5.out.out.1, H5.out.out, H5.out.ge⟩
  have HG6 := Lib.hid (HG5.out.off hk6.off HOM.out.1)
  have HT6 := Lib.hid (TellsK.mono HTL.out hk6.aft.sub)
  have HR6 := Lib.hid (hk6.rdy 0 HRD.out)
  clear d0 d1 ld HC hk6 H5 HG5 HTL HRD
  obtain ⟨v6, hv6, hl6⟩ := nodeV_le (st := s6) HT6.out HLS.out (by have := HLE.out; omega)
  have d0 := H6.out.box.1
  have d1 := H6.out.box.2.1
  have ld := H6.out.box.lt
  simp only at d0 d1
  have HC := Lib.hid (only_law (r1 := (ra4, rb4)) (r2 := (ra4, rb4)) H6.out.l HR6.out hv6 hv6 hl6 hl6)
  rw [only_self] at HC
  simp only at HC
  clear hv6 hl6
  go_upto_region 13 with (go_at_call 18; refine HC.out.mono ?_; rintro e V7 ⟨A7, c7, s7, rfl, hk7, _⟩)
  have H7 : Hid (RtAt V V7 S T g10 O4 (s7, st4.2) (ra4, rb4)) := Lib.hid ⟨hk7.l, H6.out.box.off hk7.off H6.out.out.1, H6.out.out, H6.out.ge⟩
  have HG7 := Lib.hid (HG6.out.off hk7.off HOM.out.1)
  have HT7 := Lib.hid (TellsK.mono HT6.out hk7.aft.sub)
  have HR7 := Lib.hid (hk7.rdy 0 HR6.out)
  clear d0 d1 ld HC hk7 H6 HG6 HT6 HR6
  have d0 := H7.out.box.1
  have d1 := H7.out.box.2.1
  have ld := H7.out.box.lt
  simp only at d0 d1
  have HC := Lib.hid (count_law (r1 := (0, 0)) (r2 := (ra4, rb4)) (m1 := fun _ => none) H7.out.l HR7.out (.inl ⟨rfl, fun _ => rfl⟩) HT7.out Lst.nil HLS.out (by simp) (by have := HLE.out; omega))
  simp only at HC
  rw [chgs_nil HLS.out] at HC
  go_upto_region 14 with (go_at_call 14; refine HC.out.mono ?_; rintro e V8 ⟨rfl, s8, hk8⟩)
  have H8 : Hid (RtAt V V8 S T g10 O4 (s8, st4.2) (ra4, rb4)) := Lib.hid ⟨hk8.l, H7.out.box.off hk8.off H7.out.out.1, H7.out.out, H7.out.ge⟩
  have HG8 := Lib.hid (HG7.out.off hk8.off HOM.out.1)
  have HT8 := Lib.hid (TellsK.mono HT7.out hk8.aft.sub)
  have HR8 := Lib.hid (hk8.rdy 0 HR7.out)
  clear d0 d1 ld HC hk8 H7 HG7 HT7 HR7
  obtain ⟨v8, hv8, hl8⟩ := nodeV_le (st := s8) HT8.out HLS.out (by have := HLE.out; omega)
  have d0 := H8.out.box.1
  have d1 := H8.out.box.2.1
  have ld := H8.out.box.lt
  simp only at d0 d1
  have HC := Lib.hid (only_law (r1 := (0, 0)) (r2 := (ra4, rb4)) H8.out.l HR8.out (nodeV_zero _) hv8 (Nat.le_trans (nodL_len []) (by simp)) hl8)
  rw [only_none] at HC
  simp only at HC
  have HV8 := Lib.hid hv8
  clear hv8 hl8
  go_upto_region 15 with (go_at_call 18; refine HC.out.mono ?_; rintro e V9 ⟨A9, c9, s9, rfl, hk9, hlk9⟩)
  have H9 : Hid (RtAt V V9 S T g10 O4 (s9, st4.2) (ra4, rb4)) := Lib.hid ⟨hk9.l, H8.out.box.off hk9.off H8.out.out.1, H8.out.out, H8.out.ge⟩
  have HG9 := Lib.hid (HG8.out.off hk9.off HOM.out.1)
  have HR9 := Lib.hid (hk9.rdy 0 HR8.out)
  have HC := Lib.hid (nodes_law (r := (ra4, rb4)) (vs := v8) H9.out.l HR9.out (by rw [show shRd s9.L = shRd s8.L from hlk9.rd]; exact HV8.out))
  simp only at HC
  clear d0 d1 ld hk9 hlk9 H8 HG8 HT8 HR8
  have d0 := H9.out.box.1
  have d1 := H9.out.box.2.1
  have ld := H9.out.box.lt
  simp only at d0 d1
  go_upto_region 16 with (go_at_call 19; refine HC.out.mono ?_; rintro e V10 ⟨A10, c10, s10, rfl, hk10, _, _, _⟩)
  have HBE := Lib.hid hk10.l.bel
  have hlen := fun ty => (HG9.out.off hk10.off HOM.out.1).len ty
  clear d0 d1 ld
  go_wp2
  go_ret
  exact ⟨by simp, HBW.out.trans (HBE.out.mono HBW.out.size)⟩
end Go.Proofs.Ytgkdggidgaifhaa
