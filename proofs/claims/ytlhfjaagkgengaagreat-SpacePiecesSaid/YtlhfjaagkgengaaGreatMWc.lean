/- almanaclaw16.known. Spaces over a shelf, as a law sees them. almanaclaw16.known, walked. -/
import Derived.Test.YtlhfjaagkgengaaGreatMWb
import Derived.Test.YtlhfjaagkgengaaGreatRgMZ
import Derived.Lib.SlBytesConst
namespace Go.Proofs.YtlhfjaagkgengaaGreat
open Go.RowKit Go.Maps
set_option linter.unusedVariables false
set_option linter.unusedSimpArgs false
/-- The first region of a space. -/
theorem map_one {D : SpD} (hD : D.Ok) {a n p : Int} (ha : 0 ≤ a) (hn : 1 ≤ n) (hs : a + n ≤ D.ps) (hp : 0 ≤ p ∧ p ≤ 3) : mappedF D [] a n p = ([⟨a, a + n, p⟩], 0) := by
  have b7 := hD.b7
  have h1 : pagesB D a n = true := by unfold pagesB; exact decide_eq_true (by omega)
  have h2 : rightB a (a + n) p = true := by unfold rightB protB; rw [decide_eq_true (by omega), decide_eq_true hp]; rfl
  have h3 : mapF [] a (a + n) p = ([⟨a, a + n, p⟩], 0) := by
    unfold mapF
    rw [if_neg (by rw [h2]; simp), if_neg (by simp [piecesF])]
    unfold joinedR sortG
    rw [List.nil_append, List.mergeSort_singleton]
    rfl
  unfold mappedF
  rw [if_neg (by rw [h1]; simp), h3]
  unfold fitF
  rw [if_neg (by simp only [List.length_singleton]; omega)]
theorem dist_one (x : Rg) (h : 0 ≤ x.lo ∧ x.lo ≤ 1073741824) : RgDist ([] ++ [x]) :=
  ⟨fun y hy => by rw [List.nil_append, List.mem_singleton] at hy; rw [hy]; exact h, fun y hy z hz _ => by rw [List.nil_append, List.mem_singleton] at hy hz; rw [hy, hz]⟩
theorem all_one {lo hi a b ways : Int} (h : lo ≤ a ∧ b ≤ hi) (hab : a < b) (hw : andI 3 ways = ways) : allF [⟨lo, hi, 3⟩] a b ways = true := by
  have hs : SrtR lo [⟨lo, hi, 3⟩] := ⟨Int.le_refl _, by simp only; omega, trivial⟩
  rw [all_iff hs hab]
  intro x h1 h2
  refine ⟨3, ?_, hw⟩
  unfold atR
  rw [if_pos (by simp only; omega)]
/-- What may be asked where one region is all. -/
theorem check_one {D : SpD} (hD : D.Ok) {lo hi at_ n ways : Int} (h0 : 0 ≤ lo) (h1 : hi ≤ D.ps) (h2 : lo * D.pg ≤ at_) (h3 : at_ + n ≤ hi * D.pg) (hn : 0 ≤ n ∧ n ≤ 1048576) (hw : andI 3 ways = ways) : checkF D [⟨lo, hi, 3⟩] at_ n ways = 0 := by
  have b4 := hD.b4
  have hp : (0 : Int) < D.pg := by omega
  have hm : hi * (D.pg : Int) ≤ (D.ps : Int) * D.pg := Int.mul_le_mul_of_nonneg_right h1 (by omega)
  have h0' : 0 ≤ lo * (D.pg : Int) := Int.mul_nonneg h0 (by omega)
  unfold checkF
  rw [if_neg (by rw [Int.natCast_mul]; omega)]
  by_cases c : n = 0
  · rw [if_pos c]
  · rw [if_neg c, if_pos]
    have e1 : lo ≤ at_ / D.pg := Int.le_ediv_of_mul_le hp h2
    have e2 : (at_ + n - 1) / D.pg < hi := Int.ediv_lt_of_lt_mul hp (by omega)
    have e3 : at_ / D.pg ≤ (at_ + n - 1) / D.pg := Int.ediv_le_ediv hp (by omega)
    exact all_one ⟨e1, by omega⟩ (by omega) hw
theorem right_one {lo hi ps : Int} (h0 : 0 ≤ lo) (h1 : lo < hi) (h2 : hi ≤ ps) : rightL ps [⟨lo, hi, 3⟩] = true := by
  rw [right_iff]
  refine ⟨⟨h0, h1, by simp, trivial⟩, fun r hr => ?_⟩
  rw [List.mem_singleton] at hr
  rw [hr]
  exact ⟨h2, by simp only; omega, by simp only; omega⟩
def cfK : Nat → Int := fun i => ([0, 0, 0, 0, 16, 0, 2, 3, 8] : List Int).getD i 0
theorem cfK_agg : cfgV cfK = .agg #[.int .i64 0, .int .i64 0, .int .i64 0, .int .i64 0, .int .i64 16, .int .i64 0, .int .i64 2, .int .i64 3, .int .i64 8] := rfl
theorem kc9 (w : World) (C : Array Value) (n c : Nat) : (convert 24 24 (.slice (some ⟨w.heap.size, 0, none⟩) n c)).run Tryz.prog (w.alloc (.cells C 5)) = .ok (.slice (some ⟨w.heap.size, 0, none⟩) n c) (w.alloc (.cells C 5 (C.size, C.size + 1))) :=
  Lib.run_convert_bytes_const (P := Tryz.prog) w 24 5 C n c Tryz.underlying24 Tryz.underlying5
theorem sby_row9 (w : World) (xs : Array Value) (L : Bytes) (T : TypeId) (fr : Nat × Nat) (h : xs.toList = L.map bv) : SBy (w.alloc (.cells xs T fr)) (some ⟨w.heap.size, 0, none⟩) L.length L := by
  refine ⟨rfl, fun hp => ⟨w.heap.size, 0, rfl, by simp, fun k hk => ?_⟩⟩
  rw [Nat.zero_add, cell_of_row _ _ _ _ _ _ (heap_alloc_new w _), ← Array.getElem?_toList, h, List.getElem?_map, List.getElem?_eq_getElem hk, at8_get hk]
  rfl
end Go.Proofs.YtlhfjaagkgengaaGreat
namespace Go.Proofs.YtlhfjaagkgengaaGreat
open Go.RowKit Go.Maps
set_option linter.unusedVariables false
set_option linter.unusedSimpArgs false
structure LW (S : Nat) (w0 w : World) (d : PD) (t : PSt ShS) (C : Cu) (k : Nat) (l : List Spc) : Prop where
  sw : SW (shM S) shP w d t C k l
  bel : Below w0.heap.size w0 w
  own : ∀ q, swO d t l q → w0.heap.size ≤ q
  rm : shP.room t.s < 0
section
variable {S : Nat} {w0 w w' w1 w2 : World} {d : PD} {t t' t1 t2 : PSt ShS} {C C' : Cu} {k k0 k1 : Nat} {l l' : List Spc} {s s' : Spc} {T : Nat → Prop}
theorem LW.go (h : LW S w0 w d t C k0 l) (hs : SW (shM S) shP w' d t' C' k l') (hn : SwN shP w w' d t t' l l') : LW S w0 w' d t' C' k l' := by
  have hz := h.bel.size
  exact ⟨hs, h.bel.trans (hn.off.below h.own hz), fun q hq => by rcases hn.own q hq with e | e; exact h.own q e; omega, hn.rm h.rm⟩
theorem LW.up (h : LW S w0 w d t C k l) (hb : Below w.heap.size w w') : LW S w0 w' d t C k l := h.go (h.sw.up hb) (SwN.refl.up hb)
theorem LW.less (h : LW S w0 w d t C k l) {k' : Nat} (hk : k' ≤ k) : LW S w0 w d t C k' l := ⟨h.sw.less shK_good hk, h.bel, h.own, h.rm⟩
theorem LW.perm (h : LW S w0 w d t C k l) (hp : l.Perm l') : LW S w0 w d t C k l' := ⟨h.sw.perm hp, h.bel, fun q hq => h.own q ((swO_perm hp).2 hq), h.rm⟩
/-- Another's blocks have changed. -/
theorem LW.off (h : LW S w0 w d t C k l) (ho : Off T w w') (h1 : ∀ b, T b → ¬ swO d t l b) (h2 : ∀ b, T b → w0.heap.size ≤ b) : LW S w0 w' d t C k l :=
  ⟨h.sw.off ho h1, h.bel.trans (ho.below h2 h.bel.size), h.own, h.rm⟩
/-- Store. -/
def StL9 (S : Nat) (w0 w : World) (d : PD) (t : PSt ShS) (C : Cu) (k : Nat) (s : Spc) (l : List Spc) (a : Nat) (bs : Bytes) (e : Ending) (w' : World) : Prop :=
  ∃ t' C' m' n', e = .returned (.int .i64 0) ∧ LW S w0 w' d t' C' k ({ s with m := m', n := n' } :: l) ∧ SwN shP w w' d t t' (s :: l) ({ s with m := m', n := n' } :: l) ∧ (∀ x ∈ l, x.mem C' = x.mem C) ∧ StW s C C' m' t.nx a bs
theorem LW.store {bA : Option Addr} {bn bc : Nat} {bs : Bytes} (h : LW S w0 w d t C (k + 2 * bs.length) (s :: l)) (a : Nat) (hS : SBy w bA bn bs) (hbc : bn ≤ bc) (hbn : bn ≤ 9223372036854775807) (hV : VIn (fun g => g < w.heap.size ∧ ¬ swO d t (s :: l) g) (.slice bA bn bc)) (hc : checkF s.D s.L a bs.length 2 = 0) :
    Calls Tryz.prog 17 #[.pointer (some ⟨s.D.X, 0, none⟩), .int .i64 (a : Nat), .slice bA bn bc] w (StL9 S w0 w d t C k s l a bs) := by
  have hz : 0 < s.D.pg := by have := (h.sw.ss s List.mem_cons_self).ok.b4; omega
  have hp := parts_le (a := (a : Int).toNat) (n := bs.length) hz
  refine (SW.store (k := k) shK_good shP_miss a (h.less (by omega)).sw hS hbc hbn (hV.mono fun g hg => ⟨hg.1, fun e => hg.2 (.inl e)⟩)).mono ?_
  rintro e w' ⟨t', C', m', n', h1, h2, h3, hc2⟩
  rcases hc2 with ⟨c1, _⟩ | ⟨_, he, hw⟩ | ⟨_, c1, _⟩
  · exact absurd hc c1
  · exact ⟨t', C', m', n', he, h.go h1 h2, h2, h3, by rw [Int.toNat_natCast] at hw; exact hw⟩
  · exact absurd h.rm c1
/-- Load. -/
def LdL9 (S : Nat) (w0 w : World) (d : PD) (t : PSt ShS) (C : Cu) (k : Nat) (s : Spc) (l : List Spc) (a j : Nat) (e : Ending) (w' : World) : Prop :=
  ∃ t' A' c', e = .returned (.tuple #[.slice A' j c', .int .i64 0]) ∧ LW S w0 w' d t' C k (s :: l) ∧ SwN shP w w' d t t' (s :: l) (s :: l) ∧ OwB w.heap.size w' (.slice A' j c') (rngF (flatF s.D.pg (s.mem C)) a j) ∧ ∀ g, (Value.slice A' j c').ownBlock = some g → ¬ swO d t' (s :: l) g
theorem LW.load {j : Nat} (h : LW S w0 w d t C (k + j) (s :: l)) (a : Nat) (hc : checkF s.D s.L a j 1 = 0) :
    Calls Tryz.prog 18 #[.pointer (some ⟨s.D.X, 0, none⟩), .int .i64 (a : Nat), .int .i64 (j : Nat)] w (LdL9 S w0 w d t C k s l a j) := by
  have hz : 0 < s.D.pg := by have := (h.sw.ss s List.mem_cons_self).ok.b4; omega
  have hp := parts_le (a := (a : Int).toNat) (n := (j : Int).toNat) hz
  refine (SW.load (k := k) shK_good shP_miss a j (h.less (by omega)).sw).mono ?_
  rintro e w' ⟨t', h1, h2, _, hc2⟩
  rcases hc2 with ⟨c1, _⟩ | ⟨_, A', c', he, ho, hq⟩ | ⟨_, c1, _⟩
  · exact absurd hc c1
  · rw [Int.toNat_natCast, Int.toNat_natCast] at *
    exact ⟨t', A', c', he, h.go h1 h2, h2, ho, hq⟩
  · exact absurd h.rm c1
/-- The first region. -/
def MpL9 (S : Nat) (w0 w : World) (d : PD) (t : PSt ShS) (C : Cu) (k : Nat) (s : Spc) (l : List Spc) (a n : Int) (e : Ending) (w' : World) : Prop :=
  ∃ A' cap', e = .returned (.int .i64 0) ∧ LW S w0 w' d t C k ({ s with A := A', cap := cap', L := [⟨a, a + n, 3⟩] } :: l) ∧ SwN shP w w' d t t (s :: l) ({ s with A := A', cap := cap', L := [⟨a, a + n, 3⟩] } :: l)
theorem LW.map1 (h : LW S w0 w d t C k (s :: l)) (hL : s.L = []) {a n : Int} (ha : 0 ≤ a) (hn : 1 ≤ n) (hs : a + n ≤ s.D.ps) :
    Calls Tryz.prog 16 #[.pointer (some ⟨s.D.X, 0, none⟩), .int .i64 a, .int .i64 n, .int .i64 3] w (MpL9 S w0 w d t C k s l a n) := by
  have g := h.sw.ss s List.mem_cons_self
  have b8 := g.ok.b8
  refine (ssMap_b g a n 3 (fun _ _ _ => by rw [hL]; exact dist_one _ ⟨ha, by simp only; omega⟩)).mono ?_
  intro e w' hr
  rw [hL, map_one g.ok ha hn hs (by omega)] at hr
  have hr' : RsPost (shM S) shP w d t C k s.D s.A s.cap s.L s.m s.n ([⟨a, a + n, 3⟩], 0) e w' := by rw [hL]; exact hr
  obtain ⟨he, A', cap', h1, h2⟩ := h.sw.regs hr'
  rw [if_pos rfl] at h1 h2
  exact ⟨A', cap', he, h.go h1 h2, h2⟩
end
end Go.Proofs.YtlhfjaagkgengaaGreat
namespace Go.Proofs.YtlhfjaagkgengaaGreat
open Go.RowKit Go.Maps
set_option linter.unusedVariables false
set_option linter.unusedSimpArgs false
theorem lw_po {w w' : World} {z held : Int} {e : Ending} (h : PoPost w z held e w') : ∃ S d t, e = .returned (.pointer (some ⟨d.Q, 0, none⟩)) ∧ LW S w w' d t (fun _ => none) 1000000 [] ∧ (d.z : Int) = z ∧ (d.n : Int) = held := by
  obtain ⟨S, d, t, he, hs, hz, hn, ho, hb, hr, _⟩ := h
  exact ⟨S, d, t, he, ⟨hs, hb, fun q hq => (by rcases hq with hq | ⟨x, hx, _⟩ <;> first | exact ho q hq | cases hx), hr⟩, hz, hn⟩
section
variable {S : Nat} {w0 w w' w1 w2 : World} {d : PD} {t t' t1 t2 : PSt ShS} {C C' : Cu} {k k0 k1 : Nat} {l l' : List Spc} {s s' : Spc} {T : Nat → Prop}
/-- space.New on such a pager. -/
def AdL9 (S : Nat) (w0 w : World) (d : PD) (t : PSt ShS) (C : Cu) (k : Nat) (l : List Spc) (cf : Nat → Int) (pg rg ps : Nat) (e : Ending) (w' : World) : Prop :=
  ∃ X Mm, e = .returned (.pointer (some ⟨X, 0, none⟩)) ∧ LW S w0 w' d t C k (⟨⟨X, Mm, d.Q, cf, pg, rg, ps⟩, none, 0, [], fun _ => none, 0⟩ :: l) ∧ SwN shP w w' d t t l (⟨⟨X, Mm, d.Q, cf, pg, rg, ps⟩, none, 0, [], fun _ => none, 0⟩ :: l)
theorem LW.add (h : LW S w0 w d t C k l) {cf : Nat → Int} {pg rg ps : Nat} (hD : (SpD.mk 0 0 d.Q cf pg rg ps).Ok) (hz : pg = d.z) (hl : l.length < 1000) :
    Calls Tryz.prog 15 #[cfgV cf, .pointer (some ⟨d.Q, 0, none⟩)] w (AdL9 S w0 w d t C k l cf pg rg ps) := by
  refine (spNew_any w cf d.Q pg rg ps).mono ?_
  intro e w' hn
  obtain ⟨X, Mm, he, h1, h2, hb⟩ := h.sw.add hD hz hl hn
  exact ⟨X, Mm, he, h.go h1 h2, h2⟩
def FkL9 (S : Nat) (w0 w : World) (d : PD) (t : PSt ShS) (C : Cu) (k : Nat) (s : Spc) (l : List Spc) (e : Ending) (w' : World) : Prop :=
  ∃ X Mm A' cap' t', e = .returned (.pointer (some ⟨X, 0, none⟩)) ∧ LW S w0 w' d t' (kpC C s.m) k (⟨⟨X, Mm, d.Q, s.D.cf, s.D.pg, s.D.rg, s.D.ps⟩, A', cap', s.L, s.m, s.n⟩ :: s :: l) ∧ (∀ x ∈ s :: l, x.mem (kpC C s.m) = x.mem C)
theorem LW.fork (h : LW S w0 w d t C k (s :: l)) (hr : RgOk s) (hn : s.n ≤ 100000) (hl : l.length < 900) :
    Calls Tryz.prog 32 #[.pointer (some ⟨s.D.X, 0, none⟩)] w (FkL9 S w0 w d t C k s l) := by
  refine (h.sw.fork hr hn hl).mono ?_
  rintro e w' ⟨X, Mm, A', cap', t', he, h1, h2, _, h3⟩
  exact ⟨X, Mm, A', cap', t', he, h.go h1 h2, h3⟩
end
theorem new_vin {w : World} {b : Nat} {Q : Nat → Prop} (h : ∀ q, Q q → q < w.heap.size) (hb : w.heap.size ≤ b) {w' : World} (hw : b < w'.heap.size) {n c : Nat} : VIn (fun g => g < w'.heap.size ∧ ¬ Q g) (.slice (some ⟨b, 0, none⟩) n c) := fun b' o' n' c' e _ => by
  cases e
  exact ⟨hw, fun e => by have := h _ e; omega⟩
set_option maxRecDepth 100000 in
set_option maxHeartbeats 4000000 in
theorem known16_any (w : World) : Calls Tryz.prog 12 #[] w fun e w' => e = .returned (.bool true) ∧ Below w.heap.size w w' := by
  have HPO : Hid (∀ V, Calls Tryz.prog 14 #[.agg #[.int .i64 0, .int .i64 0, .int .i64 0, .int .i64 0, .int .i64 16, .int .i64 0, .int .i64 2, .int .i64 3, .int .i64 8], .int .i64 4] V (PoPost V 16 4)) := Lib.hid fun V => pagerOf_any V cfK 4 (by decide) (by decide)
  go_enter Tryz.func12, Tryz.ntmps12
  go_wp2_with fail
  refine (HPO.out _).mono ?_
  intro e w2 hpo
  obtain ⟨S, d, t, rfl, hw, hz, hn⟩ := lw_po hpo
  obtain ⟨c0, c1, c2, c3, c4, c5, c6, c7, c8⟩ := cfg_cells hw.bel
  have HAD := Lib.hid (hw.add (cf := cfK) (pg := 16) (rg := 3) (ps := 8) ⟨rfl, rfl, rfl, by first | decide | (simp; done) | (simp <;> omega), by first | decide | (simp; done) | (simp <;> omega), by first | decide | (simp; done) | (simp <;> omega)⟩ (by omega) (by simp))
  clear hpo hw
  go_wp2_with fail
  refine HAD.out.mono ?_
  rintro e w3 ⟨X, Mm, rfl, hw3, hb3⟩
  have HMP := Lib.hid (hw3.map1 rfl (a := 1) (n := 2) (by omega) (by omega) (by first | decide | (simp; done) | (simp <;> omega)))
  clear hw3 HAD
  go_wp2_with fail
  refine HMP.out.mono ?_
  rintro e w4 ⟨A4, cp4, rfl, hw4, _⟩
  have hok := (hw4.sw.ss _ List.mem_cons_self).ok
  have hb5 : Below w4.heap.size w4 (w4.alloc (.cells #[.int .u8 97, .int .u8 98] 5 (2, 3))) := (Below.refl _ _).alloc (Nat.le_refl _) _
  have HST := Lib.hid (((hw4.up hb5).less (k' := 999990 + 2 * 2) (by omega)).store (bs := [97, 98]) (bc := 2) 17 (sby_row9 w4 #[.int .u8 97, .int .u8 98] [97, 98] _ _ rfl) (by first | decide | (simp; done) | (simp <;> omega)) (by first | decide | (simp; done) | (simp <;> omega)) (new_vin (w := w4) (fun q hq => hw4.sw.lt hq) (Nat.le_refl _) (by simp)) (check_one hok (by omega) (by first | decide | (simp; done) | (simp <;> omega)) (by first | decide | (simp; done) | (simp <;> omega)) (by first | decide | (simp; done) | (simp <;> omega)) (by first | decide | (simp; done) | (simp <;> omega)) (by first | decide | (simp; done) | (simp <;> omega))))
  have k5 := kc9 w4 #[.int .u8 97, .int .u8 98] 2 2
  clear hw4 hok hb5 HMP
  go_wp2_with fail
  refine HST.out.mono ?_
  rintro e w5 ⟨t5, C5, m5, n5, rfl, hw5, _, _, hst⟩
  have hdom : ∀ i, i ∈ ([1] : List Int) ↔ (m5 i).isSome = true := fun i => by
    rw [hst.dom i, List.mem_singleton]
    constructor
    · rintro rfl
      exact .inr ⟨17, by omega, by simp, by simp⟩
    · rintro (h | ⟨j, h1, h2, h3⟩)
      · cases h
      · simp at h2 h3
        omega
  have hn5 : n5 = 1 := cnt_list (hw5.sw.ss _ List.mem_cons_self).sp.mp (l := [1]) (by simp) hdom
  have hm5 : ∀ i id, m5 i = some id → i = 1 := fun i id h => by
    have := (hdom i).2 (by rw [h]; rfl)
    simpa using this
  have hfl : ∀ i, flatF 16 (memF 16 C5 m5) i = if 17 ≤ i ∧ i < 19 then ([97, 98] : Bytes).getD (i - 17) 0 else 0 := fun i => by
    have h0 : ∀ i, flatF 16 (memF 16 (fun _ => none) (fun _ => none)) i = 0 := fun i => by
      unfold flatF memF zeros
      simp only
      rw [List.getD_eq_getElem?_getD, List.getElem?_replicate]
      split <;> rfl
    have := hst.flat i
    unfold Spc.mem at this
    simp only at this
    rw [this, h0]
    rfl
  have HN5 := Lib.hid hn5
  have HF5 := Lib.hid hfl
  have HFK := Lib.hid (hw5.fork ⟨right_one (by omega) (by omega) (by first | decide | (simp; done) | (simp <;> omega)), by first | decide | (simp; done) | (simp <;> omega), fun i id h => by rw [hm5 i id h]; rfl, fun i id h => by rw [hm5 i id h]; first | decide | (simp; done) | (simp <;> omega)⟩ (by simp only; omega) (by simp))
  clear hw5 hst HST k5 hdom hn5 hm5 hfl
  go_wp2_with fail
  refine HFK.out.mono ?_
  rintro e w6 ⟨X6, Mm6, A6, cp6, t6, rfl, hw6, hmem6⟩
  have HM6 := Lib.hid (hmem6 _ List.mem_cons_self)
  have hok := (hw6.sw.ss _ List.mem_cons_self).ok
  have hb7 : Below w6.heap.size w6 (w6.alloc (.cells #[.int .u8 99] 5 (1, 2))) := (Below.refl _ _).alloc (Nat.le_refl _) _
  have HST := Lib.hid (((hw6.up hb7).less (k' := 999980 + 2 * 1) (by omega)).store (bs := [99]) (bc := 1) 18 (sby_row9 w6 #[.int .u8 99] [99] _ _ rfl) (by decide) (by decide) (new_vin (w := w6) (fun q hq => hw6.sw.lt hq) (Nat.le_refl _) (by simp)) (check_one hok (by omega) (by first | decide | (simp; done) | (simp <;> omega)) (by first | decide | (simp; done) | (simp <;> omega)) (by first | decide | (simp; done) | (simp <;> omega)) (by first | decide | (simp; done) | (simp <;> omega)) (by decide)))
  have k7 := kc9 w6 #[.int .u8 99] 1 1
  clear hw6 hok hb7 HFK hmem6
  go_wp2_with fail
  refine HST.out.mono ?_
  rintro e w7 ⟨t7, C7, m7, n7, rfl, hw7, _, hx7, hst7⟩
  have HM7 := Lib.hid ((hx7 _ List.mem_cons_self).trans HM6.out)
  have HF7 := Lib.hid (fun i => (hst7.flat i).trans (by rw [show Spc.mem ⟨⟨X6, Mm6, d.Q, cfK, 16, 3, 8⟩, A6, cp6, [⟨1, 1 + 2, 3⟩], m5, n5⟩ (kpC C5 m5) = Spc.mem ⟨⟨X, Mm, d.Q, cfK, 16, 3, 8⟩, A4, cp4, [⟨1, 1 + 2, 3⟩], m5, n5⟩ (kpC C5 m5) from rfl, HM6.out]))
  have hok := (hw7.sw.ss _ (List.mem_cons_of_mem _ List.mem_cons_self)).ok
  have HLD := Lib.hid (((hw7.perm (List.Perm.swap _ _ _)).less (k' := 999970 + 4) (by omega)).load 16 (check_one hok (by omega) (by first | decide | (simp; done) | (simp <;> omega)) (by first | decide | (simp; done) | (simp <;> omega)) (by first | decide | (simp; done) | (simp <;> omega)) (by first | decide | (simp; done) | (simp <;> omega)) (by decide)))
  clear hw7 hx7 hst7 hok HST k7
  go_wp2_with fail
  refine HLD.out.mono ?_
  rintro e w8 ⟨t8, A8, cc8, rfl, hw8, _, ho8, hq8⟩
  have HO8 := Lib.hid ho8
  have HQ8 := Lib.hid hq8
  have hok := (hw8.sw.ss _ (List.mem_cons_of_mem _ List.mem_cons_self)).ok
  have HLD := Lib.hid (((hw8.perm (List.Perm.swap _ _ _)).less (k' := 999960 + 4) (by omega)).load 16 (check_one hok (by omega) (by first | decide | (simp; done) | (simp <;> omega)) (by first | decide | (simp; done) | (simp <;> omega)) (by first | decide | (simp; done) | (simp <;> omega)) (by first | decide | (simp; done) | (simp <;> omega)) (by decide)))
  clear hw8 hok ho8 hq8
  go_wp2_with fail
  refine HLD.out.mono ?_
  rintro e w9 ⟨t9, A9, cc9, rfl, hw9, hn9, ho9, hq9⟩
  have hs8 := (HO8.out.off hn9.off (fun g hg e => HQ8.out g hg ((swO_perm (List.Perm.swap _ _ _)).1 e))).part.2.2
  have hs9 := ho9.part.2.2
  have HS9 := hw9.sw.ss _ (List.mem_cons_of_mem _ List.mem_cons_self)
  have r4 : ∀ f : Nat → UInt8, rngF f 16 4 = [f 16, f 17, f 18, f 19] := fun f => rfl
  have e8 : rngF (flatF 16 (Spc.mem ⟨⟨X, Mm, d.Q, cfK, 16, 3, 8⟩, A4, cp4, [⟨1, 1 + 2, 3⟩], m5, n5⟩ C7)) 16 4 = [0, 97, 98, 0] := by
    rw [HM7.out, r4]
    unfold Spc.mem
    simp only
    rw [HF5.out, HF5.out, HF5.out, HF5.out]
    rfl
  have e9 : rngF (flatF 16 (memF 16 C7 m7)) 16 4 = [0, 97, 99, 0] := by
    rw [r4, HF7.out, HF7.out, HF7.out, HF7.out]
    unfold Spc.mem
    simp only
    rw [HF5.out, HF5.out, HF5.out, HF5.out]
    rfl
  have hs8' : SBy w9 A8 4 [0, 97, 98, 0] := by rw [← e8]; exact hs8
  have hs9' : SBy w9 A9 4 [0, 97, 99, 0] := by rw [← e9]; exact hs9
  have hstr8 : (convert 24 9 (.slice A8 4 cc8)).run Tryz.prog w9 = .ok (.string ⟨#[0, 97, 98, 0]⟩) w9 := hs8'.str cc8
  have hstr9 : (convert 24 9 (.slice A9 4 cc9)).run Tryz.prog w9 = .ok (.string ⟨#[0, 97, 99, 0]⟩) w9 := hs9'.str cc9
  have HWT : Hid (∀ W, Below w9.heap.size w9 W → Calls Tryz.prog 25 #[.pointer (some ⟨X, 0, none⟩)] W fun e w' => e = .returned (.int .i64 2) ∧ Below w9.heap.size w9 w') := Lib.hid fun W hb => by
    have hsp := (hw9.sw.ss _ (List.mem_cons_of_mem _ List.mem_cons_self)).sp.up hb
    refine (weight_b hsp (by simp) (by simp only; have := HN5.out; omega)).mono ?_
    rintro e w' ⟨rfl, hb2⟩
    refine ⟨?_, hb.trans (hb2.mono hb.size)⟩
    simp only [List.length_singleton, HN5.out]
    rfl
  have HBE : Hid (∀ W, Below w9.heap.size w9 W → Below w.heap.size w W) := Lib.hid fun W hb => by
    have h1 := hw9.bel
    have h2 := ((Below.refl w.heap.size w).alloc (Nat.le_refl _) (.cells #[.int .i64 0, .int .i64 0, .int .i64 0, .int .i64 0, .int .i64 16, .int .i64 0, .int .i64 2, .int .i64 3, .int .i64 8] 23))
    exact (h2.trans (h1.mono (by simp))).trans (hb.mono (by have := h1.size; have := h2.size; omega))
  clear hw9 hn9 ho9 hq9 hs8 hs9 hs8' hs9' HS9 HLD
  go_wp2_with (first | (go_at_call 25; (refine (HWT.out _ (by first | exact Below.refl _ _ | exact (Below.refl _ _).drew)).mono ?_); rintro e w10 ⟨rfl, hb10⟩; have HB10 := Lib.hid hb10; clear hb10))
  all_goals
    go_ret
    exact ⟨rfl, HBE.out _ HB10.out⟩
end Go.Proofs.YtlhfjaagkgengaaGreat
