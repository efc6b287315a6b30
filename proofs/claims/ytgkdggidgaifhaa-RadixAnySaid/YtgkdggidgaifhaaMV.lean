/- radix: a shelf of which one blob is other bytes; plainly: what was set is found. radix: over a shelf of which one blob is other bytes: what Set answers leads to the value; Get makes six reads at most. The shelf of almanaclaw11 of which a blob may lie in what the law was given: it changes its own blocks alone. radix over a shelf of which one blob is other bytes: what each call does, for RadixAny. RadixAny: a frame told as a function; what holds between two rounds. RadixAny: from the tree that was set to the shelf of which one blob is other bytes. -/
import Derived.Test.YtgkdggidgaifhaaMF
import Derived.Test.YtgkdggidgaifhaaQgZ
import Derived.Test.YtgkdggidgaifhaaMD
namespace Go.Proofs.Ytgkdggidgaifhaa
open Go.RowKit
set_option linter.unusedVariables false
set_option linter.unusedSimpArgs false
/-- What a shelf tells of which one blob is other bytes. -/
def shRdB (s : ShS) : Rdr := fun a => if a.1 < 1 ∨ (s.L.length : Int) < a.1 then none else if a.2 ≠ 13 + ((s.L.getD (a.1 - 1).toNat []).length : Int) then none else some (if s.bad = a.1 - 1 then s.other else s.L.getD (a.1 - 1).toNat [])
theorem shRdB_put (s : ShS) (b : Bytes) (f : Int) (hb : s.bad < (s.L.length : Int)) : SubR (shRdB s) (shRdB { s with L := s.L ++ [b], full := f }) := fun a x h => by
  unfold shRdB at *
  split at h
  · cases h
  · rename_i h1
    split at h
    · cases h
    · rename_i h2
      have e : (s.L ++ [b]).getD (a.1 - 1).toNat [] = s.L.getD (a.1 - 1).toNat [] := by
        rw [List.getD_eq_getElem?_getD, List.getD_eq_getElem?_getD, List.getElem?_append_left (by omega)]
      simp only
      rw [if_neg (by simp; omega), e, if_neg h2]
      exact h
def shPB : PSnk shK where
  In s := s.bad < (s.L.length : Int)
  rd s := shRdB s
  cnt s := s.L.length
  room s := s.full
  ez := 7
  ez0 := by decide
  get s a b hs h := by
    unfold shRdB at h
    split at h
    · cases h
    · rename_i h1
      split at h
      · cases h
      · rename_i h2
        have e : shK.get s a = ({ s with gets := inc64 s.gets }, b, 0) := by
          simp only [shK]
          rw [if_neg h1, if_neg h2]
          rw [Option.some.inj h]
        rw [e]
        exact ⟨rfl, hs, rfl, rfl, rfl⟩
  put s b hs hr hb h0 := by
    have e : shK.put s b = ({ s with L := s.L ++ [b], full := if 0 < s.full then s.full - 1 else s.full }, ((s.L.length : Int) + 1, 13 + (b.length : Int)), 0) := by
      simp only [shK]
      rw [if_neg h0]
    rw [e]
    refine ⟨rfl, by show s.bad < ((s.L ++ [b]).length : Int); simp; omega, ?_, ?_, shRdB_put s b _ hs, by simp, rfl⟩
    · unfold shRdB
      have e2 : (s.L ++ [b]).getD ((s.L.length : Int) + 1 - 1).toNat [] = b := by
        rw [show ((s.L.length : Int) + 1 - 1).toNat = s.L.length by omega, List.getD_eq_getElem?_getD, List.getElem?_append_right (Nat.le_refl _)]
        simp
      simp only [e2]
      rw [if_neg (by simp; omega), if_neg (by simp), if_neg (by omega)]
    · intro h
      have := congrArg Prod.fst h
      simp at this
      omega
  full s b hs h0 := by
    have e : shK.put s b = (s, (0, 0), 7) := by simp only [shK]; rw [if_pos h0]
    rw [e]
    exact ⟨rfl, rfl⟩
/-- A root from which a key's way leads to a value. -/
inductive Leads (rd : Rdr) (key : Nat) (v : Bytes) : Nat → Nat → Int × Int → Prop
  | lone {l q : Nat} {r : Int × Int} {b : Bytes} {x : RN} (h0 : r ≠ (0, 0)) (hr : rd r = some b) (hp : parseB b = some x) (hu : x.underB l q = true) (hl : x.level = 6) (hk : x.key = key) (hv : x.val = v) : Leads rd key v l q r
  | leaf {l q : Nat} {r : Int × Int} {b : Bytes} {x : RN} (h0 : r ≠ (0, 0)) (hr : rd r = some b) (hp : parseB b = some x) (hu : x.underB l q = true) (hl : x.level = 5) (hf : frontN key 5 = x.prefix_) (hh : x.has (digN key 5) = true) (hv : x.vals (digN key 5) = v) : Leads rd key v l q r
  | fork {l q : Nat} {r : Int × Int} {b : Bytes} {x : RN} (h0 : r ≠ (0, 0)) (hr : rd r = some b) (hp : parseB b = some x) (hu : x.underB l q = true) (hl : x.level < 5) (hf : frontN key x.level = x.prefix_) (hh : x.has (digN key x.level) = true)
      (hk : Leads rd key v (x.level + 1) (frontN key (x.level + 1)) (x.kids (digN key x.level))) : Leads rd key v l q r
theorem Leads.mono {rd rd' : Rdr} {key : Nat} {v : Bytes} {l q : Nat} {r : Int × Int} (h : Leads rd key v l q r) (hs : SubR rd rd') : Leads rd' key v l q r := by
  induction h with
  | lone h0 hr hp hu hl hk hv => exact .lone h0 (hs _ _ hr) hp hu hl hk hv
  | leaf h0 hr hp hu hl hf hh hv => exact .leaf h0 (hs _ _ hr) hp hu hl hf hh hv
  | fork h0 hr hp hu hl hf hh hk ih => exact .fork h0 (hs _ _ hr) hp hu hl hf hh ih
theorem Leads.ne0 {rd : Rdr} {key : Nat} {v : Bytes} {l q : Nat} {r : Int × Int} (h : Leads rd key v l q r) : r ≠ (0, 0) := by cases h <;> assumption
section
variable {σ : Type} {K : SnkF σ} (P : PSnk K)
theorem look_leads {rd : Rdr} {key : Nat} {v : Bytes} {l q : Nat} {r : Int × Int} (h : Leads rd key v l q r) : ∀ (n : Nat) (s : σ), 7 ≤ n + l → l ≤ 6 → P.In s → P.rd s = rd → ∃ s', lookF K n s r l q key = (s', v, true, 0) := by
  induction h with
  | @lone l q r b x h0 hr hp hu hl hk hv =>
    intro n s hn hl6 hs he
    obtain ⟨n, rfl⟩ : ∃ k, n = k + 1 := ⟨n - 1, by omega⟩
    obtain ⟨s1, h1, _⟩ := tget_like P hs (by rw [he]; exact hr) hp hu
    unfold lookF
    rw [if_neg h0, h1]
    simp only
    rw [if_pos hl, if_pos hk, hv]
    exact ⟨s1, rfl⟩
  | @leaf l q r b x h0 hr hp hu hl hf hh hv =>
    intro n s hn hl6 hs he
    obtain ⟨n, rfl⟩ : ∃ k, n = k + 1 := ⟨n - 1, by omega⟩
    obtain ⟨s1, h1, _⟩ := tget_like P hs (by rw [he]; exact hr) hp hu
    unfold lookF
    rw [if_neg h0, h1]
    simp only
    rw [if_neg (by omega), if_neg (by rw [hl]; simp [hf, hh]), if_pos hl, hv]
    exact ⟨s1, rfl⟩
  | @fork l q r b x h0 hr hp hu hl hf hh hk ih =>
    intro n s hn hl6 hs he
    obtain ⟨n, rfl⟩ : ∃ k, n = k + 1 := ⟨n - 1, by omega⟩
    obtain ⟨s1, h1, h2⟩ := tget_like P hs (by rw [he]; exact hr) hp hu
    have hlu := (under_iff.1 hu).1
    unfold lookF
    rw [if_neg h0, h1]
    simp only
    rw [if_neg (by omega), if_neg (by simp [hf, hh]), if_neg (by omega)]
    exact ih n s1 (by omega) (by omega) h2.inn (h2.rd.trans he)
end
end Go.Proofs.Ytgkdggidgaifhaa
namespace Go.Proofs.Ytgkdggidgaifhaa
open Go.RowKit
set_option linter.unusedVariables false
set_option linter.unusedSimpArgs false
section
variable {rd : Rdr} {l q key : Nat} {v : Bytes} {r : Int × Int} {x : RN}
theorem Leads.putLone (hx : x.Ok) (hl : x.level = 6) (h0 : r ≠ (0, 0)) (hr : rd r = some (nodeB x)) (hu : x.underB l q = true) (hk : x.key = key) (hv : x.val = v) : Leads rd key v l q r := by
  obtain ⟨y, hy, hs⟩ := parse_node hx (fun h => by omega)
  obtain ⟨e1, e2⟩ := hs.ky hl
  exact .lone h0 hr hy (sim_under hs hx hu) (by rw [hs.level, hl]) (e1.trans hk) (e2.trans hv)
theorem Leads.putLeaf (hx : x.Ok) (hl : x.level = 5) (h0 : r ≠ (0, 0)) (hr : rd r = some (nodeB x)) (hu : x.underB l q = true) (hf : frontN key 5 = x.prefix_) (hh : x.has (digN key 5) = true) (hv : x.vals (digN key 5) = v) : Leads rd key v l q r := by
  obtain ⟨y, hy, hs⟩ := parse_node hx (fun _ => ⟨_, digN_lt _ _, hh⟩)
  exact .leaf h0 hr hy (sim_under hs hx hu) (by rw [hs.level, hl]) (by rw [hs.pr (by omega), hf]) (by rw [hs.has (by omega) _ (digN_lt _ _), hh]) (by rw [hs.vs hl _ (digN_lt _ _) hh, hv])
theorem Leads.putFork (hx : x.Ok) (hl : x.level < 5) (h0 : r ≠ (0, 0)) (hr : rd r = some (nodeB x)) (hu : x.underB l q = true) (hf : frontN key x.level = x.prefix_) (hh : x.has (digN key x.level) = true)
    (hk : Leads rd key v (x.level + 1) (frontN key (x.level + 1)) (x.kids (digN key x.level))) : Leads rd key v l q r := by
  obtain ⟨y, hy, hs⟩ := parse_node hx (fun _ => ⟨_, digN_lt _ _, hh⟩)
  refine .fork h0 hr hy (sim_under hs hx hu) (by rw [hs.level]; exact hl) (by rw [hs.level, hs.pr (by omega), hf]) (by rw [hs.level, hs.has (by omega) _ (digN_lt _ _), hh]) ?_
  rw [hs.level, hs.kd hl _ (digN_lt _ _) hh]
  exact hk
end
section
variable {σ : Type} {K : SnkF σ} {P : PSnk K}
/-- A sink all of whose answers are told. -/
def RdAll (P : PSnk K) : Prop := ∀ s a, P.In s → (K.get s a).2.2 = 0 → P.rd s a = some (K.get s a).2.1
/-- Set has answered with a root. -/
structure SetL (P : PSnk K) (s : σ) (key : Nat) (v : Bytes) (l q : Nat) (y : (σ × Int) × (Int × Int) × Int) : Prop where
  inn : P.In y.1.1
  sub : SubR (P.rd s) (P.rd y.1.1)
  ld : Leads (P.rd y.1.1) key v l q y.2.1
theorem put_l {s : σ} {p : Int} {x : RN} (h : P.In s) (hr : K.Rdy s 1) (hx : x.Ok) (h0 : (tputF K (s, p) x).2.2 = 0) :
    P.In (tputF K (s, p) x).1.1 ∧ SubR (P.rd s) (P.rd (tputF K (s, p) x).1.1) ∧ P.rd (tputF K (s, p) x).1.1 (tputF K (s, p) x).2.1 = some (nodeB x) ∧ (tputF K (s, p) x).2.1 ≠ (0, 0) := by
  rcases Outc.put (P := P) (p := p) h hr hx with ⟨j, _, ha, _, hg⟩ | ⟨j, _, ha, he, _⟩
  · exact ⟨ha.inn, ha.sub, hg.1, hg.2⟩
  · exact absurd (he.symm.trans h0) P.ez0
theorem tget_l (hA : RdAll P) {s s1 : σ} {r : Int × Int} {l q : Nat} {x : RN} {er : Int} (hs : P.In s) (h : tgetF K s r l q = (s1, some x, er)) : ∃ b, P.rd s r = some b ∧ parseB b = some x ∧ x.underB l q = true ∧ s1 = (K.get s r).1 ∧ (K.get s r).2.2 = 0 := by
  unfold tgetF at h
  split at h
  · cases h
  · rename_i h0
    have h0 : (K.get s r).2.2 = 0 := by simpa using h0
    split at h
    · cases h
    · rename_i y hy
      split at h
      · rename_i hu
        cases h
        exact ⟨_, hA s r hs h0, hy, hu, rfl, h0⟩
      · cases h
theorem set_lone {s : σ} {p : Int} {l q key : Nat} {v : Bytes} (h : P.In s) (hr : K.Rdy s 1) (hk : key < 16777216) (hv : v.length ≤ 256) (hl : l ≤ 6) (hq : frontN key l = q) (h0 : (tputF K (s, p) (loneR key v)).2.2 = 0) : SetL P s key v l q (tputF K (s, p) (loneR key v)) := by
  obtain ⟨h1, h2, h3, h4⟩ := put_l (P := P) h hr (lone_ok hk hv) h0
  exact ⟨h1, h2, Leads.putLone (lone_ok hk hv) rfl h4 h3 (under_iff.2 ⟨hl, hq⟩) rfl rfl⟩
theorem pair_l {s : σ} {p : Int} {l q key : Nat} {v : Bytes} {r : Int × Int} {x : RN} (h : P.In s) (hr : K.Rdy s 2) (hK : K.Good) (hrb : Bd r) (hk : key < 16777216) (hv : v.length ≤ 256) (hl : l ≤ 5) (hq : frontN key l = q) (hx : x.Ok)
    (hu : x.underB l q = true) (hne : x.some ≠ key) (h0 : (pairF K (s, p) r x key v).2.2 = 0) : SetL P s key v l q (pairF K (s, p) r x key v) := by
  obtain ⟨hlx, hux⟩ := under_iff.1 hu
  have hsl := some_lt hx
  obtain ⟨hd, hf⟩ := fork_ne hsl hk hne
  have hge := fork_ge hsl hk hne hl (by rw [hux, hq])
  have hle := forkN_le x.some key
  unfold pairF at h0 ⊢
  by_cases h5 : forkN x.some key = 5
  · rw [if_pos h5] at h0 ⊢
    rw [h5] at hd hf
    have hok := pair0_vals_ok (f := frontN key 5) (d1 := digN x.some 5) (d2 := digN key 5) (front_lt hk (by omega)) hx.v hv
    obtain ⟨h1, h2, h3, h4⟩ := put_l (P := P) h (hK.mono _ _ _ hr (by omega)) hok h0
    refine ⟨h1, h2, Leads.putLeaf hok rfl h4 h3 (under_iff.2 ⟨hl, ?_⟩) rfl (two_has.2 (.inr rfl)) (upd_same _ _ _)⟩
    have e : frontN (({ pair0 5 (frontN key 5) (digN x.some 5) (digN key 5) with vals := upd (upd (fun _ => []) (digN x.some 5) x.val) (digN key 5) v } : RN).some) 5 = frontN key 5 := front_some (x := ({ pair0 5 (frontN key 5) (digN x.some 5) (digN key 5) with vals := upd (upd (fun _ => []) (digN x.some 5) x.val) (digN key 5) v } : RN)) (by show 5 ≤ 5; omega)
    rw [front_eq_le hl (by omega) e, hq]
  · rw [if_neg h5] at h0 ⊢
    have hf5 : forkN x.some key < 5 := by omega
    generalize forkN x.some key = f at *
    have hgd := tput_good hK (p := p) (m := 1) hr (lone_ok hk hv)
    have hle1 := fun e => set_lone (P := P) (p := p) (l := f + 1) h (hK.mono _ _ _ hr (by omega)) hk hv (by omega) rfl e
    generalize tputF K (s, p) (loneR key v) = y at *
    obtain ⟨⟨s1, p1⟩, leaf, er⟩ := y
    simp only at h0 hgd hle1 ⊢
    by_cases he : er = 0
    · subst he
      rw [if_neg (by simp)] at h0 ⊢
      obtain ⟨i1, i2, i3⟩ := hle1 rfl
      simp only at i1 i2 i3
      have hok := pair0_kids_ok (l := f) (f := frontN key f) (d1 := digN x.some f) (d2 := digN key f) hle (front_lt hk (by omega)) hrb (hgd.2 rfl)
      obtain ⟨h1, h2, h3, h4⟩ := put_l (P := P) i1 hgd.1 hok h0
      refine ⟨h1, i2.trans h2, Leads.putFork hok hf5 h4 h3 (under_iff.2 ⟨hge, ?_⟩) rfl (two_has.2 (.inr rfl)) ?_⟩
      · have e : frontN (({ pair0 f (frontN key f) (digN x.some f) (digN key f) with kids := upd (upd (fun _ => (0, 0)) (digN x.some f) r) (digN key f) leaf } : RN).some) f = frontN key f := front_some (x := ({ pair0 f (frontN key f) (digN x.some f) (digN key f) with kids := upd (upd (fun _ => (0, 0)) (digN x.some f) r) (digN key f) leaf } : RN)) (by show f ≤ 5; omega)
        rw [front_eq_le hge (by omega) e, hq]
      · show Leads _ key v (f + 1) (frontN key (f + 1)) (upd (upd (fun _ => (0, 0)) (digN x.some f) r) (digN key f) leaf (digN key f))
        rw [upd_same]
        exact i3.mono h2
    · rw [if_pos he] at h0
      exact absurd h0 he
set_option maxHeartbeats 1000000 in
theorem set_l (hK : K.Good) (hA : RdAll P) {key : Nat} (hk : key < 16777216) {v : Bytes} (hv : v.length ≤ 256) : ∀ (n l q : Nat) (s : σ) (p : Int) (r : Int × Int), 7 ≤ n + l → l ≤ 5 → frontN key l = q → P.In s → K.Rdy s (7 - l) →
    (setF K n (s, p) r l q key v).2.2 = 0 → SetL P s key v l q (setF K n (s, p) r l q key v)
  | 0, l, q, s, p, r, h1, h2, _, _, _, _ => by omega
  | n + 1, l, q, s, p, r, h1, hl5, hq, hs, hrd, h0 => by
    unfold setF at h0 ⊢
    by_cases hz : r = (0, 0)
    · rw [if_pos hz] at h0 ⊢
      exact set_lone hs (hK.mono _ _ _ hrd (by omega)) hk hv (by omega) hq h0
    · rw [if_neg hz] at h0 ⊢
      simp only at h0 ⊢
      cases hg : tgetF K s r l q with
      | mk s1 oe =>
        obtain ⟨ox, er⟩ := oe
        rw [hg] at h0
        cases ox with
        | none =>
          exfalso
          simp only at h0
          subst h0
          unfold tgetF at hg
          split at hg
          · rename_i hne
            have := congrArg (fun y => y.2.2) hg
            exact hne this
          · split at hg
            · cases hg
            · split at hg <;> cases hg
        | some x =>
          obtain ⟨b, hr, hp, hu, hs1, hz0⟩ := tget_l hA hs hg
          have hok := parseB_ok hp
          have hlu := under_iff.1 hu
          have hlv := hok.lv
          obtain ⟨g1, g2, g3, _⟩ := P.get s r b hs hr
          rw [← hs1] at g2 g3
          have hbr : Bd r := hK.getB s r (hK.mono _ _ _ hrd (by omega)) hz0
          have hr1 : K.Rdy s1 (7 - l) := by rw [hs1]; exact hK.getR s r _ hrd
          have hsub1 : SubR (P.rd s) (P.rd s1) := by rw [g3]; exact SubR.refl _
          have hr' := hsub1 _ _ hr
          simp only at h0 ⊢
          have up : ∀ {y : (σ × Int) × (Int × Int) × Int}, SetL P s1 key v l q y → SetL P s key v l q y := fun h => ⟨h.inn, hsub1.trans h.sub, h.ld⟩
          by_cases hkk : x.level = 6 ∧ x.key = key
          · rw [if_pos hkk] at h0 ⊢
            by_cases hvv : x.val = v
            · rw [if_pos hvv]
              exact ⟨g2, hsub1, .lone hz hr' hp hu hkk.1 hkk.2 hvv⟩
            · rw [if_neg hvv] at h0 ⊢
              have hok2 : ({ x with val := v } : RN).Ok := hok.setVal hv
              obtain ⟨i1, i2, i3, i4⟩ := put_l (P := P) g2 (hK.mono _ _ _ hr1 (by omega)) hok2 h0
              exact up ⟨i1, i2, Leads.putLone hok2 hkk.1 i4 i3 (under_iff.2 hlu) hkk.2 rfl⟩
          · rw [if_neg hkk] at h0 ⊢
            by_cases hpt : x.level = 6 ∨ frontN key x.level ≠ x.prefix_
            · rw [if_pos hpt] at h0 ⊢
              exact up (pair_l g2 (hK.mono _ _ _ hr1 (by omega)) hK hbr hk hv hl5 hq hok hu (pack_ne hok hk hkk hpt) h0)
            · rw [if_neg hpt] at h0 ⊢
              have hf : frontN key x.level = x.prefix_ := Decidable.of_not_not fun e => hpt (.inr e)
              have h6 : x.level ≠ 6 := fun e => hpt (.inl e)
              by_cases h5 : x.level = 5
              · rw [if_pos h5] at h0 ⊢
                rw [h5] at hf
                by_cases hhv : x.has (digN key 5) = true ∧ x.vals (digN key 5) = v
                · rw [if_pos hhv]
                  exact ⟨g2, hsub1, .leaf hz hr' hp hu h5 hf hhv.1 hhv.2⟩
                · rw [if_neg hhv] at h0 ⊢
                  have hok2 : ({ x with has := upd x.has (digN key 5) true, vals := upd x.vals (digN key 5) v } : RN).Ok := hok.setHV _ hv
                  obtain ⟨i1, i2, i3, i4⟩ := put_l (P := P) g2 (hK.mono _ _ _ hr1 (by omega)) hok2 h0
                  exact up ⟨i1, i2, Leads.putLeaf hok2 h5 i4 i3 (under_iff.2 hlu) hf (upd_same _ _ _) (upd_same _ _ _)⟩
              · rw [if_neg h5] at h0 ⊢
                have ih := set_l hK hA hk hv n (x.level + 1) (frontN key (x.level + 1)) s1 p (if x.has (digN key x.level) = true then x.kids (digN key x.level) else (0, 0)) (by omega) (by omega) rfl g2 (hK.mono _ _ _ hr1 (by omega))
                have hgd := setF_good hK hk hv n (x.level + 1) s1 p (if x.has (digN key x.level) = true then x.kids (digN key x.level) else (0, 0)) (frontN key (x.level + 1)) 1 (by omega) (by omega) (hK.mono _ _ _ hr1 (by omega))
                generalize setF K n (s1, p) (if x.has (digN key x.level) = true then x.kids (digN key x.level) else (0, 0)) (x.level + 1) (frontN key (x.level + 1)) key v = y at h0 ih hgd ⊢
                obtain ⟨⟨s2, p2⟩, made, er2⟩ := y
                simp only at h0 ih hgd ⊢
                by_cases he : er2 = 0
                · subst he
                  obtain ⟨i1, i2, i3⟩ := ih rfl
                  simp only at i1 i2 i3
                  by_cases hsame : x.has (digN key x.level) = true ∧ made = x.kids (digN key x.level)
                  · rw [if_pos (.inr hsame)]
                    refine ⟨i1, hsub1.trans i2, .fork hz (i2 _ _ hr') hp hu (by omega) hf hsame.1 ?_⟩
                    rw [← hsame.2]
                    exact i3
                  · rw [if_neg (by rintro (h | h); exact h rfl; exact hsame h)] at h0 ⊢
                    have hok2 : ({ x with has := upd x.has (digN key x.level) true, kids := upd x.kids (digN key x.level) made } : RN).Ok := hok.setHKd _ (hgd.2 rfl)
                    obtain ⟨j1, j2, j3, j4⟩ := put_l (P := P) i1 hgd.1 hok2 h0
                    refine up ⟨j1, i2.trans j2, Leads.putFork hok2 (show x.level < 5 by omega) j4 j3 (under_iff.2 hlu) hf (upd_same _ _ _) ?_⟩
                    show Leads _ key v (x.level + 1) (frontN key (x.level + 1)) (upd x.kids (digN key x.level) made (digN key x.level))
                    rw [upd_same]
                    exact i3.mono j2
                · rw [if_pos (.inl he)] at h0
                  exact absurd h0 he
/-- Get's answer: a value, or nothing and no bytes, or an error; so many reads. -/
theorem look_ans {cnt : σ → Int} (hc : ∀ s a, cnt (K.get s a).1 = inc64 (cnt s)) : ∀ (n l q : Nat) (s : σ) (r : Int × Int) (key : Nat), l ≤ 5 → (∃ c, c ≤ 6 - l ∧ cnt (lookF K n s r l q key).1 = incN (cnt s) c) ∧ ((lookF K n s r l q key).2.2.1 = true → (lookF K n s r l q key).2.2.2 = 0) ∧ ((lookF K n s r l q key).2.2.1 = false → (lookF K n s r l q key).2.1 = [])
  | 0, l, q, s, r, key, hl => ⟨⟨0, by omega, rfl⟩, (fun e => by cases e), fun _ => rfl⟩
  | n + 1, l, q, s, r, key, hl => by
    unfold lookF
    split
    · exact ⟨⟨0, by omega, rfl⟩, (fun e => by cases e), fun _ => rfl⟩
    · cases hg : tgetF K s r l q with
      | mk s1 oe =>
        have hs1 : s1 = (K.get s r).1 := by
          have h := tgetF_fst (K := K) (s := s) (r := r) (l := l) (q := q)
          rw [hg] at h
          exact h
        have hc1 : cnt s1 = incN (cnt s) 1 := by rw [hs1]; exact hc s r
        obtain ⟨ox, er⟩ := oe
        cases ox with
        | none => exact ⟨⟨1, by omega, hc1⟩, (fun e => by cases e), fun _ => rfl⟩
        | some x =>
          have hx := tgetF_some hg
          simp only
          split
          · split
            · exact ⟨⟨1, by omega, hc1⟩, fun _ => rfl, (fun e => by cases e)⟩
            · exact ⟨⟨1, by omega, hc1⟩, (fun e => by cases e), fun _ => rfl⟩
          · split
            · exact ⟨⟨1, by omega, hc1⟩, (fun e => by cases e), fun _ => rfl⟩
            · split
              · exact ⟨⟨1, by omega, hc1⟩, fun _ => rfl, (fun e => by cases e)⟩
              · have hlv := hx.2.1.lv
                obtain ⟨⟨c, ih1, ih2⟩, ih3, ih4⟩ := look_ans hc n (x.level + 1) (frontN key (x.level + 1)) s1 (x.kids (digN key x.level)) key (by omega)
                exact ⟨⟨1 + c, by omega, by rw [ih2, hc1, incN_add]⟩, ih3, ih4⟩
end
end Go.Proofs.Ytgkdggidgaifhaa
namespace Go.Proofs.Ytgkdggidgaifhaa
open Go.RowKit
set_option linter.unusedVariables false
set_option linter.unusedSimpArgs false
/-- A shelf in a world behind W0: what lies below W0's end is as it was; the shelf's own blocks lie above. -/
def ShX (W0 : World) (S : Nat) (w : World) (O : Nat → Prop) (s : ShS) : Prop :=
  ∃ rv vs ov, ShIn w S rv vs ov s ∧ (O S ∧ W0.heap.size ≤ S) ∧ (∀ g, rv.ownBlock = some g → O g ∧ W0.heap.size ≤ g) ∧ (∀ v ∈ vs, VIn O v) ∧ VIn O ov ∧ (∀ k, O k → k < w.heap.size) ∧ ∀ k, k < W0.heap.size → O k ∧ w.heap[k]? = W0.heap[k]?
section
variable {W0 w w' : World} {S : Nat} {s : ShS} {O P : Nat → Prop}
theorem ShX.off (h : ShX W0 S w O s) (ho : Off P w w') (hs : ∀ k, P k → ¬ O k) : ShX W0 S w' O s := by
  obtain ⟨rv, vs, ov, h1, h2, h3, h4, h5, h6, h7⟩ := h
  exact ⟨rv, vs, ov, h1.off ho (fun e => hs _ e h2.1) (fun g hg e => hs _ e (h3 g hg).1) (fun v hv => (h4 v hv).mono fun b hb e => hs _ e hb) (h5.mono fun b hb e => hs _ e hb), h2, h3, h4, h5, fun k hk => Nat.lt_of_lt_of_le (h6 k hk) ho.size,
    fun k hk => ⟨(h7 k hk).1, (ho.block k (h6 k (h7 k hk).1) (fun e => hs k e (h7 k hk).1)).trans (h7 k hk).2⟩⟩
theorem ShX.lt {k : Nat} (h : ShX W0 S w O s) (hk : O k) : k < w.heap.size := by
  obtain ⟨rv, vs, ov, h1, h2, h3, h4, h5, h6, h7⟩ := h
  exact h6 k hk
theorem ShX.same (h : ShX W0 S w O s) {k : Nat} (hk : k < W0.heap.size) : w.heap[k]? = W0.heap[k]? := by
  obtain ⟨rv, vs, ov, h1, h2, h3, h4, h5, h6, h7⟩ := h
  exact (h7 k hk).2
end
theorem shxGet_none {W0 : World} {S : Nat} {w w' : World} {O : Nat → Prop} {s : ShS} {a : Int × Int} {s' : ShS} (h : shK.get s a = (s', [], 20)) (h1 : ShX W0 S w' O s') (h2 : Off O w w') : GePost (ShX W0 S) shK w O s a (.returned (.tuple #[.slice none 0 0, .int .i64 20])) w' := by
  unfold GePost
  rw [h]
  exact ⟨_, rfl, h1, h2, ⟨none, 0, 0, rfl, Nat.le_refl _, SBy.nil _ _, fun a e => (by cases e)⟩, fun b o n c e => (by cases e), by simp⟩
theorem shxGet_some {W0 : World} {S : Nat} {w w' : World} {O : Nat → Prop} {s : ShS} {a : Int × Int} {s' : ShS} {L : Bytes} {v : Value} (h : shK.get s a = (s', L, 0)) (h1 : ShX W0 S w' O s') (h2 : Off O w w') (h3 : SlA w' v L) (h4 : ∀ b o n c, v = .slice (some ⟨b, o, none⟩) n c → w.heap.size ≤ b) (h5 : L.length ≤ 2 ^ 40) :
    GePost (ShX W0 S) shK w O s a (.returned (.tuple #[v, .int .i64 0])) w' := by
  unfold GePost
  rw [h]
  exact ⟨_, rfl, h1, h2, h3, h4, h5⟩
set_option maxRecDepth 100000 in
set_option maxHeartbeats 4000000 in
theorem shxGet_any {W0 : World} {S : Nat} {w : World} {O : Nat → Prop} {s : ShS} (a : Int × Int) (h : ShX W0 S w O s) : Calls Try.prog 108 #[.pointer (some ⟨S, 0, none⟩), addrV a] w (GePost (ShX W0 S) shK w O s a) := by
  obtain ⟨rv, vs, ov, h1, h2, h3, h4, h5, h6, h7⟩ := h
  obtain ⟨a0, a1⟩ := a
  obtain ⟨Ar, cr, hrv⟩ : ∃ Ar cr, rv = .slice Ar vs.length cr := by
    rcases h1.row.2 with ⟨rfl, h0⟩ | ⟨g, cap, cur, rfl, _⟩
    · exact ⟨_, _, by rw [h0]⟩
    · exact ⟨_, _, rfl⟩
  have hlen := h1.len
  have HI := Lib.hid h1
  have HS := Lib.hid h2
  have H3 := Lib.hid h3
  have H4 := Lib.hid h4
  have H5 := Lib.hid h5
  have H6 := Lib.hid h6
  have H7 := Lib.hid h7
  have q4 := h1.c4
  have f4 := h1.fr 4
  have lS := h1.lt
  clear h1 h2 h3 h4 h5 h6 h7
  unfold addrV
  go_enter Try.func108, Try.ntmps108
  go_upto_region 2 with (fail)
  refine wp_forget (fun V => ShIn V S rv vs ov { s with gets := inc64 s.gets } ∧ BoxA V w.heap.size (a0, a1) ∧ Off (· = S) w V) ?_ ?_
  · have hal := fun (W : World) (o : Obj) => (Below.refl W.heap.size W).alloc (Nat.le_refl _) o
    have e1 : (w.setCell ⟨S, 4, none⟩ (.int .i64 (wrap64 (s.gets + 1)))).heap.size = w.heap.size := by simp
    have hb := BoxA.new (w.setCell ⟨S, 4, none⟩ (.int .i64 (wrap64 (s.gets + 1)))) 30 (a0, a1)
    rw [e1] at hb
    exact ⟨(HI.out.setGets (inc64 s.gets)).up (hal _ _), hb, ((Off.refl (· = S) w).setCell (p := ⟨S, 4, none⟩) rfl _).step (hal _ _)⟩
  rintro V ⟨hi, hb, ho⟩
  have HI2 := Lib.hid hi
  have HO := Lib.hid ho
  have HAT : Hid (∀ W, Below V.heap.size V W → ShX W0 S W O { s with gets := inc64 s.gets } ∧ Off O w W) := Lib.hid (fun W hbb => ⟨⟨rv, vs, ov, hi.up hbb, HS.out, H3.out, H4.out, H5.out, fun k hk => Nat.lt_of_lt_of_le (H6.out k hk) (Nat.le_trans ho.size hbb.size), fun k hk => ⟨(H7.out k hk).1, (hbb.block k (Nat.lt_of_lt_of_le (H6.out k (H7.out k hk).1) ho.size)).trans ((ho.block k (H6.out k (H7.out k hk).1) (fun e => by have := HS.out.2; omega)).trans (H7.out k hk).2)⟩⟩, (ho.step hbb).mono fun k e => by rw [e]; exact HS.out.1⟩)
  have b0 := hb.1
  have b1 := hb.2.1
  simp only at b0 b1
  have lB := hb.lt
  have q0 := hi.c0
  have q1 := hi.c1
  have q2 := hi.c2
  have lS2 := hi.lt
  rw [hrv] at q0
  have HRV := Lib.hid hrv
  have hsz := hi.sz
  have HSZ := Lib.hid hsz
  have hL31 := hsz.1
  simp only at hL31
  clear hi hb ho q4 f4 HI hrv hsz
  have HG : Hid (shK.get s (a0, a1) = if a0 < 1 ∨ (s.L.length : Int) < a0 then ({ s with gets := inc64 s.gets }, [], 20)
    else if a1 ≠ 13 + ((s.L.getD (a0 - 1).toNat []).length : Int) then ({ s with gets := inc64 s.gets }, [], 20)
    else ({ s with gets := inc64 s.gets }, if s.bad = a0 - 1 then s.other else s.L.getD (a0 - 1).toNat [], 0)) := Lib.hid rfl
  rw [← hlen] at HG hL31
  have HLEN := Lib.hid hlen
  clear hlen
  by_cases g1 : a0 < 1
  · have hg := HG.out
    rw [if_pos (.inl g1)] at hg
    have HG2 := Lib.hid hg
    clear hg HG
    refine wp_region_up (by kernel_rfl) (by kernel_rfl) ?_
    repeat (go_big_quiet_step (fail))
    refine wpQuiet_nil ?_
    rintro _ ⟨g, rfl⟩
    go_wp2
    go_ret2
    exact shxGet_none HG2.out (HAT.out _ g.h).1 (HAT.out _ g.h).2
  by_cases g2 : (vs.length : Int) < a0
  · have hg := HG.out
    rw [if_pos (.inr g2)] at hg
    have HG2 := Lib.hid hg
    clear hg HG
    refine wp_region_up (by kernel_rfl) (by kernel_rfl) ?_
    repeat (go_big_quiet_step (fail))
    refine wpQuiet_nil ?_
    rintro _ ⟨g, rfl⟩
    go_wp2
    go_ret2
    exact shxGet_none HG2.out (HAT.out _ g.h).1 (HAT.out _ g.h).2
  obtain ⟨j, hj⟩ : ∃ j : Nat, a0 = (j : Int) + 1 := ⟨(a0 - 1).toNat, by omega⟩
  subst hj
  have hjl : j < vs.length := by omega
  obtain ⟨vj, hvj⟩ : ∃ v, vs[j]? = some v := ⟨_, List.getElem?_eq_getElem hjl⟩
  obtain ⟨bj, hbj⟩ : ∃ b, s.L[j]? = some b := ⟨_, List.getElem?_eq_getElem (by rw [← HLEN.out]; exact hjl)⟩
  obtain ⟨Aj, nj, cj, rfl, hcj, hsj⟩ := HI2.out.it j _ _ hvj hbj
  obtain ⟨gr, hgr⟩ : ∃ gr, Ar = some ⟨gr, 0, none⟩ := by
    rcases HI2.out.row.2 with ⟨e, h0⟩ | ⟨g, cap, cur, e, _⟩
    · rw [h0] at hjl; simp at hjl
    · rw [HRV.out] at e
      cases e
      exact ⟨_, rfl⟩
  subst hgr
  have ck := World.ownsRow.cells HI2.out.row (g := gr) (by rw [HRV.out]; rfl) j _ hvj
  rw [show (⟨gr, 0, none⟩ : Addr).add j = ⟨gr, j, none⟩ by unfold Addr.add; split <;> simp_all] at ck
  have lG : gr < V.heap.size := lt_of_cell ck
  have hlj := hsj.1
  have hg := HG.out
  rw [if_neg (by omega), show ((j : Int) + 1 - 1).toNat = j by omega, show ((j : Int) + 1 - 1) = (j : Int) by omega, List.getD_eq_getElem?_getD, hbj] at hg
  simp only [Option.getD_some, hlj] at hg
  have HG2 := Lib.hid hg
  have HSJ := Lib.hid hsj
  have hw1 : IntKind.i64.wrap ((j : Int) + 1 - 1) = (j : Int) := by
    rw [show (j : Int) + 1 - 1 = (j : Int) by omega]
    exact IntWalk.i64_in _ (by omega)
  have hnj : nj ≤ 1000000 := by
    rw [← hlj]
    exact HSZ.out.2.1 _ (List.mem_of_getElem? hbj)
  have hjI : (j : Int) < (vs.length : Int) := by omega
  have k1 : decide ((j : Int) + 1 < 1) = false := by simp; omega
  have k2 : decide ((vs.length : Int) < (j : Int) + 1) = false := by simp; omega
  clear hg HG hsj hlj hvj hbj
  refine wp_region_up (by kernel_rfl) (by kernel_rfl) ?_
  repeat (go_big_quiet_step (fail))
  refine wpQuiet_nil ?_
  rintro _ ⟨g, rfl⟩
  go_upto_region 4 with (fail)
  refine wp_region_upW (by kernel_rfl) (by kernel_rfl) ?_
  repeat (go_big_quiet_step (fail))
  refine wpQuiet_nil ?_
  rintro _ ⟨g2, rfl⟩
  go_upto_region 5 with (fail)
  refine wp_region_upW (by kernel_rfl) (by kernel_rfl) ?_
  repeat (go_big_quiet_step (fail))
  refine wpQuiet_nil ?_
  rintro _ ⟨g3, rfl⟩
  obtain ⟨Ao, no, co, hov, _, hso⟩ := HI2.out.ot
  rw [hov] at q2
  have HSO := Lib.hid hso
  have HOV := Lib.hid hov
  clear hso hov
  obtain ⟨Ax, nx, cx, Lx, hx⟩ : ∃ Ax nx cx, ∃ Lx : Bytes, (if s.bad = (j : Int) then Value.slice Ao no co else .slice Aj nj cj) = .slice Ax nx cx ∧ SBy V Ax nx Lx ∧ nx ≤ 1000000 ∧ (if s.bad = (j : Int) then s.other else bj) = Lx := by
    by_cases h : s.bad = (j : Int)
    · rw [if_pos h, if_pos h]
      exact ⟨_, _, _, _, rfl, HSO.out, by rw [← HSO.out.1]; exact HSZ.out.2.2.1, rfl⟩
    · rw [if_neg h, if_neg h]
      exact ⟨_, _, _, _, rfl, HSJ.out, hnj, rfl⟩
  obtain ⟨x1, x2, x3, x4⟩ := hx
  have HX2 := Lib.hid x2
  have HX1 := Lib.hid x1
  have HX4 := Lib.hid x4
  clear x1 x2 x4
  go_upto_if 43 with (fail)
  go_cut [6] from 43 to 47 (fun s6 wc => s6 = .slice Ax nx cx ∧ wc = g3.world)
  case first =>
    have x1 := HX1.out
    by_cases h : s.bad = (j : Int)
    · rw [if_pos h] at x1
      have HX := Lib.hid x1
      have hb := beq_iff_eq.2 h
      clear h x1 HX1
      go_wp2_with fail
      go_meet
      exact ⟨HX.out, rfl⟩
    · rw [if_neg h] at x1
      have HX := Lib.hid x1
      have hb : (s.bad == (j : Int)) = false := by simp [h]
      clear h x1 HX1
      go_wp2_with fail
      go_meet
      exact ⟨HX.out, rfl⟩
  case rest =>
  obtain ⟨rfl, rfl⟩ := hcut
  go_upto_region 7 with (fail)
  refine wp_region_upW (by kernel_rfl) (by kernel_rfl) ?_
  repeat (go_big_quiet_step (fail))
  refine wpQuiet_nil ?_
  rintro _ ⟨g4, rfl⟩
  by_cases h : a1 = 13 + (nj : Int)
  case neg =>
    have hb : (a1 != 13 + (nj : Int)) = true := by simp [h]
    have hg := HG2.out
    rw [if_pos h] at hg
    have HG3 := Lib.hid hg
    clear hg HG2 h
    go_wp2
    go_ret2
    exact shxGet_none HG3.out (HAT.out _ g4.h).1 (HAT.out _ g4.h).2
  have hb : (a1 != 13 + (nj : Int)) = false := by simp [h]
  have hg := HG2.out
  rw [if_neg (fun e => e h), HX4.out] at hg
  have HG3 := Lib.hid hg
  clear hg HG2 h
  go_upto_region 9 with (fail)
  refine wp_forget (fun W => Below V.heap.size V W) g4.h ?_
  intro W1 hb1
  have HB1 := Lib.hid hb1
  have HSX := Lib.hid (HX2.out.off (S := fun _ => False) (Off.of_below hb1) (fun _ _ _ => id))
  clear hb1
  go_wp2_with (at_builtin; go_must (refine wpList_appF rfl (.tmp 62) (.tmp 63) rfl W1 (.slice (some ⟨W1.heap.size, 0, none⟩) 0 0) [] Lx rfl (FrB.lit W1) Ax nx cx rfl (HSX.out.alloc _) (by simp; omega) nx (by simp) ?_); intro A' c' w1 h1 hgg)
  have H1 := Lib.hid h1
  clear h1 hgg
  go_wp2
  go_ret2
  have hf := H1.out
  have hs := hf.slA
  exact shxGet_some HG3.out (HAT.out _ (HB1.out.trans (hf.bel.mono HB1.out.size))).1 (HAT.out _ (HB1.out.trans (hf.bel.mono HB1.out.size))).2 (by simpa using hs.1) (fun b o n c e => Nat.le_trans (Nat.le_trans HO.out.size HB1.out.size) (hs.2 b o n c e)) (by rw [HX2.out.1]; omega)
theorem shxPut_no {W0 : World} {S : Nat} {w w' : World} {O : Nat → Prop} {s : ShS} {b : Bytes} (h0 : s.full = 0) (h1 : ShX W0 S w' O s) (h2 : Off O w w') : PuPost (ShX W0 S) shK w O s b (.returned (.tuple #[.agg #[.int .i64 0, .int .i64 0], .int .i64 7])) w' := by
  have e : shK.put s b = (s, (0, 0), 7) := by simp only [shK]; rw [if_pos h0]
  unfold PuPost
  rw [e]
  exact ⟨O, rfl, h1, h2, fun k e => .inl e⟩
theorem shxPut_yes {W0 : World} {S : Nat} {w V V5 W : World} {O : Nat → Prop} {s : ShS} {b : Bytes} {rv rv' ov : Value} {vs : List Value} {f' : Int} {nv : Nat} {x : Value} (h0 : ¬ s.full = 0) (hf : f' = if 0 < s.full then s.full - 1 else s.full) (hnv : nv = b.length) (hlen : vs.length = s.L.length) (hof : Off (· = S) w V) (hVs : w.heap.size < V.heap.size)
    (hi : ShIn V5 S rv' (vs ++ [x]) ov { s with L := s.L ++ [b], full := f' }) (ho : Off (fun k => k = S ∨ rv.ownBlock = some k) V V5) (hrv : ∀ g, rv'.ownBlock = some g → rv.ownBlock = some g ∨ V.heap.size ≤ g) (hx : VIn (fun k => V.heap.size ≤ k) x) {V4 : World} (_ : SlB V4 x b)
    (hW : Off (· = w.heap.size) V5 W) (hS : O S ∧ W0.heap.size ≤ S) (h3 : ∀ g, rv.ownBlock = some g → O g ∧ W0.heap.size ≤ g) (h4 : ∀ v ∈ vs, VIn O v) (h5 : VIn O ov) (h6 : ∀ k, O k → k < w.heap.size) (h7 : ∀ k, k < W0.heap.size → O k ∧ w.heap[k]? = W0.heap[k]?) :
    PuPost (ShX W0 S) shK w O s b (.returned (.tuple #[.agg #[.int .i64 ((vs.length : Int) + 1), .int .i64 (13 + (nv : Int))], .int .i64 0])) W := by
  have e : shK.put s b = ({ s with L := s.L ++ [b], full := f' }, ((vs.length : Int) + 1, 13 + (nv : Int)), 0) := by
    simp only [shK]
    rw [if_neg h0, hf, hlen, hnv]
  unfold PuPost
  rw [e]
  have s1 := hof.size
  have s2 := ho.size
  have s3 := hW.size
  have hrl := World.ownsRow.lt hi.row
  have nS : S ≠ w.heap.size := by have := h6 _ hS.1; omega
  have hx5 : VIn (fun k => k < V5.heap.size) x := by
    obtain ⟨i, hi2⟩ : ∃ i, (vs ++ [x])[i]? = some x := ⟨vs.length, by simp⟩
    have hi3 : (s.L ++ [b])[i]? ≠ none := by
      intro h
      have h7 := (List.getElem?_eq_some_iff.1 hi2).1
      rw [List.getElem?_eq_none_iff] at h
      simp at h h7
      omega
    obtain ⟨bb, hbb⟩ := Option.ne_none_iff_exists'.1 hi3
    exact (hi.it i x bb hi2 hbb).inl
  have hN : W0.heap.size ≤ w.heap.size := by have := h6 _ hS.1; have := hS.2; omega
  have hrN : ∀ g, rv'.ownBlock = some g → W0.heap.size ≤ g := fun g hg => by
    rcases hrv g hg with e | e
    · exact (h3 g e).2
    · omega
  have h7' : ∀ k, k < W0.heap.size → (O k ∨ (V.heap.size ≤ k ∧ k < W.heap.size)) ∧ W.heap[k]? = W0.heap[k]? := fun k hk => by
    obtain ⟨e1, e2⟩ := h7 k hk
    have := h6 k e1
    refine ⟨.inl e1, ((hW.block k (by omega) (by omega)).trans ((ho.block k (by omega) ?_).trans (hof.block k (by omega) (by have := hS.2; omega)))).trans e2⟩
    rintro (e | e)
    · have := hS.2; omega
    · have := (h3 k e).2; omega
  have hrO : ∀ g, rv'.ownBlock = some g → (O g ∨ (V.heap.size ≤ g ∧ g < W.heap.size)) ∧ g ≠ w.heap.size := fun g hg => by
    have h7 := (hrl g hg).2
    rcases hrv g hg with e | e
    · have h8 := (h3 g e).1
      have := h6 g h8
      exact ⟨.inl h8, by omega⟩
    · exact ⟨.inr ⟨e, by omega⟩, by omega⟩
  have hxO : VIn (fun g => (O g ∨ (V.heap.size ≤ g ∧ g < W.heap.size)) ∧ g ≠ w.heap.size) x := fun k o n c e h0 => by
    have h7 := hx k o n c e h0
    have h8 := hx5 k o n c e h0
    exact ⟨.inr ⟨h7, by omega⟩, by omega⟩
  have hOO : ∀ g, O g → (O g ∨ (V.heap.size ≤ g ∧ g < W.heap.size)) ∧ g ≠ w.heap.size := fun g hg => ⟨.inl hg, by have := h6 g hg; omega⟩
  have hvO : ∀ v ∈ vs ++ [x], VIn (fun g => (O g ∨ (V.heap.size ≤ g ∧ g < W.heap.size)) ∧ g ≠ w.heap.size) v := fun v hv => by
    rcases List.mem_append.1 hv with hv | hv
    · exact (h4 v hv).mono hOO
    · rw [List.mem_singleton.1 hv]; exact hxO
  refine ⟨fun k => O k ∨ (V.heap.size ≤ k ∧ k < W.heap.size), rfl, ⟨rv', vs ++ [x], ov, hi.off hW nS (fun g hg => (hrO g hg).2) (fun v hv => (hvO v hv).mono fun b hb => hb.2) (h5.mono fun b hb => (hOO b hb).2), ⟨.inl hS.1, hS.2⟩, fun g hg => ⟨(hrO g hg).1, hrN g hg⟩, fun v hv => (hvO v hv).mono fun b hb => hb.1, h5.mono fun b hb => .inl hb, fun k hk => hk.elim (fun e => by have := h6 k e; omega) (fun e => e.2), h7'⟩, ?_, fun k hk => hk.imp id (fun e => by omega)⟩
  exact ((hof.mono fun k e => by rw [e]; exact hS.1).trans (ho.mono fun k e => e.elim (fun e => by rw [e]; exact hS.1) (fun e => (h3 k e).1))).late hW fun i hi e => by omega
set_option maxRecDepth 100000 in
set_option maxHeartbeats 4000000 in
theorem shxPut_any {W0 : World} {S : Nat} {w : World} {O : Nat → Prop} {s : ShS} {v : Value} {b : Bytes} (h : ShX W0 S w O s) (hr : shK.Rdy s 1) (hv : SlA w v b) (hbl : b.length ≤ 5000) : Calls Try.prog 109 #[.pointer (some ⟨S, 0, none⟩), v] w (PuPost (ShX W0 S) shK w O s b) := by
  obtain ⟨rv, vs, ov, h1, h2, h3, h4, h5, h6, h7⟩ := h
  obtain ⟨Av, nv, cv, rfl, hcv, hsv, hav⟩ := hv
  obtain ⟨Ar, cr, hrv⟩ : ∃ Ar cr, rv = .slice Ar vs.length cr := by
    rcases h1.row.2 with ⟨rfl, h0⟩ | ⟨g, cap, cur, rfl, _⟩
    · exact ⟨_, _, by rw [h0]⟩
    · exact ⟨_, _, rfl⟩
  have hnv := hsv.1
  have HI := Lib.hid h1
  have HS := Lib.hid h2
  have H3 := Lib.hid h3
  have H4 := Lib.hid h4
  have H5 := Lib.hid h5
  have H6 := Lib.hid h6
  have H7 := Lib.hid h7
  have HSV := Lib.hid hsv
  have q3 := h1.c3
  have f3 := h1.fr 3
  have lS := h1.lt
  clear h1 h2 h3 h4 h5 h6 h7 hsv hav
  go_enter Try.func109, Try.ntmps109
  by_cases h0 : s.full = 0
  · have hb : (s.full == 0) = true := by simp [h0]
    have H0 := Lib.hid h0
    clear h0
    go_wp2
    have hbx := (BoxA.new w 30 (0, 0)).set (0, 0)
    refine bodyPost_ret (results_addr rfl _ _ _ _ _ rfl (Box0.new w _).1.1 (Box0.new w _).1.2) rfl ?_
    have ho : Off O w (w.alloc (.cells #[.int .i64 0, .int .i64 0] 30)) := (Off.refl _ _).alloc _
    exact shxPut_no H0.out (ShX.off ⟨rv, vs, ov, HI.out, HS.out, H3.out, H4.out, H5.out, H6.out, H7.out⟩ (P := fun _ => False) ((Off.refl _ _).alloc _) (fun _ => False.elim)) ho
  · have hb : (s.full == 0) = false := by simp [h0]
    have H0 := Lib.hid h0
    obtain ⟨f', hf'⟩ : ∃ f', f' = if 0 < s.full then s.full - 1 else s.full := ⟨_, rfl⟩
    have HF := Lib.hid hf'
    clear h0 hf'
    have hfl := hr.2.2.2
    by_cases hp : 0 < s.full
    case' pos =>
      have hw1 : IntKind.i64.wrap (s.full - 1) = s.full - 1 := IntWalk.i64_in _ (by omega)
    case' neg => skip
    all_goals
      go_upto_region 5 with (fail)
      refine wp_forget (fun V => ShIn V S rv vs ov { s with full := f' } ∧ BoxA V w.heap.size (0, 0) ∧ Off (· = S) w V) ?_ ?_
      · first
          | exact ⟨by rw [HF.out, if_neg hp]; exact HI.out.up ((Below.refl _ _).alloc (Nat.le_refl _) _), BoxA.new w _ (0, 0), (Off.refl _ _).alloc _⟩
          | exact ⟨by rw [HF.out, if_pos hp]; exact (HI.out.setFull (s.full - 1) (by omega)).up ((Below.refl _ _).alloc (Nat.le_refl _) _), by have := BoxA.new (w.setCell ⟨S, 3, none⟩ (.int .i64 (s.full - 1))) 30 (0, 0); rw [show (w.setCell ⟨S, 3, none⟩ (.int .i64 (s.full - 1))).heap.size = w.heap.size by simp] at this; exact this, ((Off.refl (· = S) w).setCell (p := ⟨S, 3, none⟩) rfl _).alloc _⟩
      rintro V ⟨hi, hbx, hof⟩
      have HIV := Lib.hid hi
      have HBX := Lib.hid hbx
      have HOF := Lib.hid hof
      have HVS : Hid (SBy V Av nv b) := Lib.hid (by
        have hn0 := HI.out.noBy (v := .slice Av nv cv) (L := b) ⟨_, _, _, rfl, hcv, HSV.out⟩
        obtain ⟨A5, n5, c5, e5, _, h5⟩ := SlB.offP (v := .slice Av nv cv) (L := b) ⟨_, _, _, rfl, hcv, HSV.out⟩ hof hn0
        cases e5
        exact h5)
      have hvl : vs.length ≤ 2147483647 := by have := hr.1; have := hi.len; simp only at this; omega
      have q0 := hi.c0
      have f0 := hi.fr 0
      rw [hrv] at q0
      have lS2 := hi.lt
      have HRV := Lib.hid hrv
      clear hi hbx hof q3 f3 hrv
      go_region_law (first
        | (refine step_appF (by rfl) _ _ (by rfl) V _ [] b (by rfl) (FrB.lit V).drew _ _ _ (by rfl) (HVS.out.up (((Below.refl _ _).alloc (Nat.le_refl _) _).drew)) (by simp; omega) nv (by simp; omega) ?_; intro A2 c2 w2 hf2; have HF2 := Lib.hid hf2; have q2 := (hf2.bel.cell (p := ⟨S, 0, none⟩) lS2).trans q0; have l2 := Nat.lt_of_lt_of_le lS2 hf2.bel.size; clear hf2)
        | (refine step_appR (by rfl) _ _ (by rfl) rv vs w2.heap.size A2 nv c2 (by rw [HRV.out]; rfl) (row_off ((HIV.out.up HF2.out.bel).row) (S := fun _ => False) (Off.of_below ((Below.refl _ _).alloc (Nat.le_refl _) _)) (fun _ _ => id)) (by rfl) (by rw [cell_of_row _ _ _ _ _ _ (heap_alloc_new w2 _)]; rfl) hvl ?_; intro v4 w4 hrow hg hat ⟨A4, n4, c4, e4⟩; subst e4; have HROW := Lib.hid hrow; have HGR := Lib.hid hg; have HAT := Lib.hid hat; have q5 := ((grown_off hg).cell (p := ⟨S, 0, none⟩) (by simp; omega) HIV.out.neR).trans ((((Below.refl w2.heap.size w2).alloc (Nat.le_refl _) _).cell (p := ⟨S, 0, none⟩) l2).trans q2); have f5 := ((grown_off hg).frozen (p := ⟨S, 0, none⟩) (by simp; omega) HIV.out.neR).trans ((((Below.refl w2.heap.size w2).alloc (Nat.le_refl _) _).frozen (p := ⟨S, 0, none⟩) l2).trans ((HF2.out.bel.frozen (p := ⟨S, 0, none⟩) lS2).trans f0)); clear hrow hg hat))
      all_goals
        go_upto_region 6 with (fail)
        have hput := HIV.out.put (rv' := .slice A4 n4 c4) (A := A2) (n := nv) (c := c2) ⟨hr.1, hr.2.1, hr.2.2.1, HIV.out.sz.2.2.2⟩ hbl HF2.out HROW.out HGR.out HAT.out
        have hn4 : n4 = vs.length + 1 := by
          rcases HROW.out.2 with ⟨e, h0⟩ | ⟨g, cap, cur, e, _⟩
          · simp at h0
          · cases e; simp
        refine wp_forget (fun W => ShIn W S (.slice A4 n4 c4) (vs ++ [Value.slice A2 nv c2]) ov { s with L := s.L ++ [b], full := f' } ∧ Off (fun k => k = S ∨ rv.ownBlock = some k) V W) ⟨hput.1, hput.2.1⟩ ?_
        rintro V5 ⟨hi5, ho5⟩
        have HI5 := Lib.hid hi5
        have HO5 := Lib.hid ho5
        have HPT := Lib.hid hput.2.2
        have hbx5 := HBX.out.off ho5 (fun e => e.elim (fun e => by omega) (fun e => by have := (World.ownsRow.lt HIV.out.row _ e).2; have := H6.out _ (H3.out _ e).1; omega))
        have HBX5 := Lib.hid hbx5
        have p0 := hi5.c0
        have b0 := hbx5.1
        have b1 := hbx5.2.1
        have g0 := hbx5.2.2 0
        have g1 := hbx5.2.2 1
        have lS5 := hi5.lt
        have e4 : (n4 : Int) = (vs.length : Int) + 1 := by omega
        clear hput hi5 ho5 hbx5 q0 q2 q5 f0 f5 hn4 HF2 HROW HGR HAT
        go_wp2
        have hfin := HBX5.out.set ((vs.length : Int) + 1, 13 + (nv : Int))
        refine bodyPost_ret (results_addr rfl _ _ _ _ _ rfl hfin.1.1 hfin.1.2.1) rfl ?_
        exact shxPut_yes H0.out HF.out (by rw [← hnv]) HIV.out.len HOF.out HBX.out.lt HI5.out HO5.out HPT.out.1 HPT.out.2.1 HPT.out.2.2 hfin.2 HS.out H3.out H4.out H5.out H6.out H7.out
/-- The shelf as a sink. -/
def shX (W0 : World) (S : Nat) : Snk shK where
  T := 27
  p := some ⟨S, 0, none⟩
  fg := 108
  fp := 109
  nilG := fun n w => by kernel_rfl
  nilP := fun n w => by kernel_rfl
  metG := fun n w => by kernel_rfl
  metP := fun n w => by kernel_rfl
  entG := ent_of Try.func108 (by kernel_rfl) rfl
  entP := ent_of Try.func109 (by kernel_rfl) rfl
  At := ShX W0 S
  off := fun h ho hs => h.off ho hs
  lt := fun h hk => h.lt hk
  get := fun a h => shxGet_any a h
  put := fun h hr hv hb => shxPut_any h hr hv hb
end Go.Proofs.Ytgkdggidgaifhaa
namespace Go.Proofs.Ytgkdggidgaifhaa
open Go.RowKit
set_option linter.unusedVariables false
set_option linter.unusedSimpArgs false
theorem shPB_all : RdAll shPB := fun s a hs h0 => by
  show shRdB s a = some (shK.get s a).2.1
  unfold shRdB
  simp only [shK] at h0 ⊢
  by_cases h1 : a.1 < 1 ∨ (s.L.length : Int) < a.1
  · rw [if_pos h1] at h0; simp at h0
  · rw [if_neg h1] at h0 ⊢
    by_cases h2 : a.2 ≠ 13 + ((s.L.getD (a.1 - 1).toNat []).length : Int)
    · rw [if_pos h2] at h0; simp at h0
    · rw [if_neg h1, if_neg h2, if_neg h2]
/-- Two shelves that differ in the count of reads alone. -/
structure SameG (s s' : ShS) : Prop where
  L : s'.L = s.L
  bad : s'.bad = s.bad
  other : s'.other = s.other
  full : s'.full = s.full
theorem SameG.refl (s : ShS) : SameG s s := ⟨rfl, rfl, rfl, rfl⟩
theorem SameG.trans {a b c : ShS} (h : SameG a b) (k : SameG b c) : SameG a c := ⟨k.L.trans h.L, k.bad.trans h.bad, k.other.trans h.other, k.full.trans h.full⟩
theorem SameG.symm {a b : ShS} (h : SameG a b) : SameG b a := ⟨h.L.symm, h.bad.symm, h.other.symm, h.full.symm⟩
theorem SameG.rdy {a b : ShS} (h : SameG a b) {n : Nat} (k : shK.Rdy a n) : shK.Rdy b n := ⟨by rw [h.L]; exact k.1, by rw [h.L]; exact k.2.1, by rw [h.other]; exact k.2.2.1, by rw [h.full]; exact k.2.2.2⟩
theorem SameG.rd {a b : ShS} (h : SameG a b) : shRdB b = shRdB a := by funext x; unfold shRdB; rw [h.L, h.bad, h.other]
theorem shGetG (s : ShS) (a : Int × Int) : SameG s (shK.get s a).1 ∧ (shK.get s a).1.gets = inc64 s.gets := by
  simp only [shK]
  split
  · exact ⟨⟨rfl, rfl, rfl, rfl⟩, rfl⟩
  · split <;> exact ⟨⟨rfl, rfl, rfl, rfl⟩, rfl⟩
theorem shGet_eq {s s' : ShS} (h : SameG s s') (a : Int × Int) : (shK.get s' a).2 = (shK.get s a).2 := by
  simp only [shK]
  rw [h.L, h.bad, h.other]
  split
  · rfl
  · split <;> rfl
theorem tgetG (s : ShS) (r : Int × Int) (l q : Nat) : SameG s (tgetF shK s r l q).1 := by
  rw [tgetF_fst]
  exact (shGetG s r).1
theorem tget_eqG {s s' : ShS} (h : SameG s s') (r : Int × Int) (l q : Nat) : (tgetF shK s' r l q).2 = (tgetF shK s r l q).2 := by
  have e := shGet_eq h r
  unfold tgetF
  rw [e]
  split
  · rfl
  · split
    · rfl
    · split <;> rfl
theorem lookG : ∀ (n : Nat) (s : ShS) (r : Int × Int) (l q key : Nat), SameG s (lookF shK n s r l q key).1
  | 0, s, r, l, q, key => SameG.refl s
  | n + 1, s, r, l, q, key => by
    unfold lookF
    split
    · exact SameG.refl s
    · have h1 := tgetG s r l q
      generalize tgetF shK s r l q = y at h1
      obtain ⟨s1, ox, er⟩ := y
      cases ox with
      | none => exact h1
      | some x =>
        simp only
        split
        · split <;> exact h1
        · split
          · exact h1
          · split
            · exact h1
            · exact h1.trans (lookG n s1 _ _ _ _)
section
variable {α : Type} (cb : α → Int × Int → RN → α × Bool)
theorem kidsG {W : WkSt ShS α → Int × Int → Nat → Nat → WkSt ShS α × Bool × Int} (hW : ∀ st r l q, SameG st.1 (W st r l q).1.1) (x : RN) : ∀ (m i : Nat) (st : WkSt ShS α), SameG st.1 (kidsF W x m i st).1.1
  | 0, i, st => SameG.refl _
  | m + 1, i, st => by
    unfold kidsF
    split
    · exact kidsG hW x m _ _
    · have h1 := hW st (x.kids i) (x.level + 1) (x.prefix_ * 16 + i)
      generalize W st (x.kids i) (x.level + 1) (x.prefix_ * 16 + i) = y at h1
      obtain ⟨st', more, e⟩ := y
      simp only
      split
      · exact h1.trans (kidsG hW x m _ _)
      · exact h1
theorem walkG : ∀ (n : Nat) (st : WkSt ShS α) (r : Int × Int) (l q : Nat), SameG st.1 (walkF shK cb n st r l q).1.1
  | 0, st, r, l, q => SameG.refl _
  | n + 1, (s, left, a), r, l, q => by
    unfold walkF
    split
    · exact SameG.refl s
    · split
      · exact SameG.refl s
      · have h1 := tgetG s r l q
        generalize tgetF shK s r l q = y at h1
        obtain ⟨s1, ox, er⟩ := y
        cases ox with
        | none => exact h1
        | some x =>
          simp only
          split
          · exact h1
          · exact SameG.trans h1 (kidsG (fun st r l q => walkG n st r l q) x 16 0 (s1, left - 1, (cb a r x).1))
theorem kids_eqG {W : WkSt ShS α → Int × Int → Nat → Nat → WkSt ShS α × Bool × Int} (hW : ∀ st st' r l q, SameG st.1 st'.1 → st'.2 = st.2 → SameG (W st r l q).1.1 (W st' r l q).1.1 ∧ (W st' r l q).1.2 = (W st r l q).1.2 ∧ (W st' r l q).2 = (W st r l q).2) (x : RN) : ∀ (m i : Nat) (st st' : WkSt ShS α), SameG st.1 st'.1 → st'.2 = st.2 →
    SameG (kidsF W x m i st).1.1 (kidsF W x m i st').1.1 ∧ (kidsF W x m i st').1.2 = (kidsF W x m i st).1.2 ∧ (kidsF W x m i st').2 = (kidsF W x m i st).2
  | 0, i, st, st', h, e => ⟨h, e, rfl⟩
  | m + 1, i, st, st', h, e => by
    unfold kidsF
    split
    · exact kids_eqG hW x m _ _ _ h e
    · obtain ⟨h1, h2, h3⟩ := hW st st' (x.kids i) (x.level + 1) (x.prefix_ * 16 + i) h e
      generalize W st (x.kids i) (x.level + 1) (x.prefix_ * 16 + i) = y at h1 h2 h3
      generalize W st' (x.kids i) (x.level + 1) (x.prefix_ * 16 + i) = y' at h1 h2 h3
      obtain ⟨st1, more, e1⟩ := y
      obtain ⟨st1', more', e1'⟩ := y'
      simp only at h1 h2 h3 ⊢
      cases h3
      split
      · exact kids_eqG hW x m _ _ _ h1 h2
      · exact ⟨h1, h2, rfl⟩
theorem walk_eqG : ∀ (n : Nat) (st st' : WkSt ShS α) (r : Int × Int) (l q : Nat), SameG st.1 st'.1 → st'.2 = st.2 →
    SameG (walkF shK cb n st r l q).1.1 (walkF shK cb n st' r l q).1.1 ∧ (walkF shK cb n st' r l q).1.2 = (walkF shK cb n st r l q).1.2 ∧ (walkF shK cb n st' r l q).2 = (walkF shK cb n st r l q).2
  | 0, st, st', r, l, q, h, e => ⟨h, e, rfl⟩
  | n + 1, (s, left, a), (s', left', a'), r, l, q, h, e => by
    cases e
    unfold walkF
    split
    · exact ⟨h, rfl, rfl⟩
    · split
      · exact ⟨h, rfl, rfl⟩
      · have h0 : SameG (tgetF shK s r l q).1 (tgetF shK s' r l q).1 := (tgetG s r l q).symm.trans (SameG.trans h (tgetG s' r l q))
        have h1 := tget_eqG h r l q
        generalize tgetF shK s r l q = y at h0 h1
        generalize tgetF shK s' r l q = y' at h0 h1
        obtain ⟨s1, ox, er⟩ := y
        obtain ⟨s1', ox', er'⟩ := y'
        simp only at h0 h1
        cases h1
        cases ox with
        | none => exact ⟨h0, rfl, rfl⟩
        | some x =>
          simp only
          split
          · exact ⟨h0, rfl, rfl⟩
          · exact kids_eqG (fun st st' r l q => walk_eqG n st st' r l q) x 16 0 _ _ h0 rfl
end
/-- A shelf that has more. -/
structure Grw (s s' : ShS) : Prop where
  L : ∃ l, s'.L = s.L ++ l
  bad : s'.bad = s.bad
  other : s'.other = s.other
  full : s'.full = s.full
theorem SameG.grw {a b : ShS} (h : SameG a b) : Grw a b := ⟨⟨[], by rw [h.L, List.append_nil]⟩, h.bad, h.other, h.full⟩
theorem Grw.refl (a : ShS) : Grw a a := (SameG.refl a).grw
theorem Grw.trans {a b c : ShS} (h : Grw a b) (k : Grw b c) : Grw a c := by
  obtain ⟨l, e⟩ := h.L
  obtain ⟨l', e'⟩ := k.L
  exact ⟨⟨l ++ l', by rw [e', e, List.append_assoc]⟩, k.bad.trans h.bad, k.other.trans h.other, k.full.trans h.full⟩
theorem tputG {s : ShS} (hf : s.full < 0) (p : Int) (x : RN) : Grw s (tputF shK (s, p) x).1.1 := by
  unfold tputF
  have e : shK.put s (nodeB x) = ({ s with L := s.L ++ [nodeB x], full := if 0 < s.full then s.full - 1 else s.full }, ((s.L.length : Int) + 1, 13 + ((nodeB x).length : Int)), 0) := by
    simp only [shK]
    rw [if_neg (by omega)]
  simp only [e]
  exact ⟨⟨_, rfl⟩, rfl, rfl, by show (if 0 < s.full then s.full - 1 else s.full) = s.full; rw [if_neg (by omega)]⟩
theorem Grw.neg {a b : ShS} (h : Grw a b) (k : a.full < 0) : b.full < 0 := by rw [h.full]; exact k
theorem pairG {s : ShS} (hf : s.full < 0) (p : Int) (r : Int × Int) (x : RN) (key : Nat) (v : Bytes) : Grw s (pairF shK (s, p) r x key v).1.1 := by
  unfold pairF
  split
  · exact tputG hf p _
  · have h1 := tputG hf p (loneR key v)
    generalize tputF shK (s, p) (loneR key v) = y at h1
    obtain ⟨⟨s1, p1⟩, leaf, er⟩ := y
    simp only at h1 ⊢
    split
    · exact h1
    · exact h1.trans (tputG (h1.neg hf) p1 _)
theorem setG {key : Nat} {v : Bytes} : ∀ (n : Nat) (s : ShS) (p : Int) (r : Int × Int) (l q : Nat), s.full < 0 → Grw s (setF shK n (s, p) r l q key v).1.1
  | 0, s, p, r, l, q, hf => Grw.refl s
  | n + 1, s, p, r, l, q, hf => by
    unfold setF
    split
    · exact tputG hf p _
    · simp only
      have h0 := (tgetG s r l q).grw
      generalize tgetF shK s r l q = y at h0
      obtain ⟨s1, ox, er⟩ := y
      have hf1 := h0.neg hf
      cases ox with
      | none => exact h0
      | some x =>
        simp only at h0 hf1 ⊢
        split
        · split
          · exact h0
          · exact h0.trans (tputG hf1 p _)
        · split
          · exact h0.trans (pairG hf1 p r x key v)
          · split
            · split
              · exact h0
              · exact h0.trans (tputG hf1 p _)
            · have h2 := setG (key := key) (v := v) n s1 p (if x.has (digN key x.level) = true then x.kids (digN key x.level) else (0, 0)) (x.level + 1) (frontN key (x.level + 1)) hf1
              generalize setF shK n (s1, p) (if x.has (digN key x.level) = true then x.kids (digN key x.level) else (0, 0)) (x.level + 1) (frontN key (x.level + 1)) key v = y at h2
              obtain ⟨⟨s2, p2⟩, made, er2⟩ := y
              simp only at h2 ⊢
              split
              · exact h0.trans h2
              · exact (h0.trans h2).trans (tputG (h2.neg hf1) p2 _)
theorem cutG {key : Nat} : ∀ (n : Nat) (s : ShS) (p : Int) (r : Int × Int) (l q : Nat), s.full < 0 → Grw s (cutF shK n (s, p) r l q key).1.1
  | 0, s, p, r, l, q, hf => Grw.refl s
  | n + 1, s, p, r, l, q, hf => by
    unfold cutF
    split
    · exact Grw.refl s
    · simp only
      have h0 := (tgetG s r l q).grw
      generalize tgetF shK s r l q = y at h0
      obtain ⟨s1, ox, er⟩ := y
      have hf1 := h0.neg hf
      cases ox with
      | none => exact h0
      | some x =>
        simp only at h0 hf1 ⊢
        split
        · split <;> exact h0
        · split
          · exact h0
          · split
            · split
              · exact h0
              · exact h0.trans (tputG hf1 p _)
            · have h2 := cutG (key := key) n s1 p (x.kids (digN key x.level)) (x.level + 1) (frontN key (x.level + 1)) hf1
              generalize cutF shK n (s1, p) (x.kids (digN key x.level)) (x.level + 1) (frontN key (x.level + 1)) key = y at h2
              obtain ⟨⟨s2, p2⟩, kid, er2⟩ := y
              simp only at h2 ⊢
              split
              · exact h0.trans h2
              · split
                · exact h0.trans h2
                · split
                  · exact h0.trans h2
                  · exact (h0.trans h2).trans (tputG (h2.neg hf1) p2 _)
/-- The law's tree over its shelf, behind W. -/
structure ShY (W w : World) (S T : Nat) (O : Nat → Prop) (st : ShS × Int) : Prop where
  tr : TrAt (shX W S) w T O st.1 st.2
  hT : W.heap.size ≤ T
  bel : Below W.heap.size W w
  inn : st.1.bad < (st.1.L.length : Int)
  fl : st.1.full < 0
section
variable {W w w' : World} {S T : Nat} {O O' : Nat → Prop} {st st' : ShS × Int}
theorem ShY.next {P : Nat → Prop} (h : ShY W w S T O st) (ht : TrAt (shX W S) w' T O' st'.1 st'.2) (ho : Off P w w') (hg : Grw st.1 st'.1) : ShY W w' S T O' st' := by
  refine ⟨ht, h.hT, ⟨ho.os.trans h.bel.os, ho.tape.trans h.bel.tape, ho.output.trans h.bel.output, Nat.le_trans h.bel.size ho.size, fun k hk => ShX.same ht.at_ hk⟩, ?_, hg.neg h.fl⟩
  obtain ⟨l, e⟩ := hg.L
  have := h.inn
  rw [hg.bad, e]
  simp
  omega
theorem ShY.up (h : ShY W w S T O st) (hb : Below w.heap.size w w') : ShY W w' S T O st := h.next (P := fun _ => False) (h.tr.up hb) (Off.of_below hb) (Grw.refl _)
theorem ShY.off {P : Nat → Prop} (h : ShY W w S T O st) (ho : Off P w w') (hP : ∀ k, P k → Out O T k) : ShY W w' S T O st := by
  have ht := h.tr.off ho (fun k e => (hP k e).1) (fun e => (hP T e).2 rfl)
  exact ⟨ht, h.hT, ⟨ho.os.trans h.bel.os, ho.tape.trans h.bel.tape, ho.output.trans h.bel.output, Nat.le_trans h.bel.size ho.size, fun k hk => ShX.same ht.at_ hk⟩, h.inn, h.fl⟩
end
set_option maxRecDepth 100000 in
theorem look_bad (w : World) (T : Nat) (r : Int × Int) {key : Int} (hk : ¬ (0 ≤ key ∧ key < 16777216)) :
    Calls Try.prog 23 #[.pointer (some ⟨T, 0, none⟩), addrV r, .int .i64 key] w fun e w' => e = .returned (.tuple #[.slice none 0 0, .bool false, .int .i64 1]) ∧ Below w.heap.size w w' := by
  have hrt : decide (0 ≤ key ∧ key < 16777216) = false := by simp; omega
  unfold addrV
  go_enter Try.func23, Try.ntmps23
  go_wp2_with (go_at_call 35; refine (right_any _ _).mono ?_; rintro e w1 ⟨rfl, rfl⟩; rw [hrt])
  go_ret3
  exact ⟨rfl, (Below.refl _ _).alloc (Nat.le_refl _) _⟩
/-- Get has answered. -/
structure YGet (W w w' : World) (S T : Nat) (O : Nat → Prop) (st : ShS × Int) (s' : ShS) (n : Nat) (is : Bool) (er : Int) : Prop where
  l : ShY W w' S T O (s', st.2)
  off : Off O w w'
  same : SameG st.1 s'
  gets : ∃ c, c ≤ 6 ∧ s'.gets = incN st.1.gets c
  yes : is = true → er = 0
  no : is = false → n = 0
section
variable {W w : World} {S T : Nat} {O : Nat → Prop} {st : ShS × Int}
theorem y_get (h : ShY W w S T O st) (r : Int × Int) (key : Int) :
    Calls Try.prog 23 #[.pointer (some ⟨T, 0, none⟩), .agg #[.int .i64 r.1, .int .i64 r.2], .int .i64 key] w fun e w' => ∃ A n c is er s', e = .returned (.tuple #[.slice A n c, .bool is, .int .i64 er]) ∧ YGet W w w' S T O st s' n is er := by
  by_cases hk : 0 ≤ key ∧ key < 16777216
  · obtain ⟨k, rfl⟩ : ∃ k : Nat, key = (k : Int) := ⟨key.toNat, by omega⟩
    have hg := lookG 7 st.1 r 0 0 k
    have ha := look_ans (K := shK) (cnt := fun s => s.gets) (fun s a => (shGetG s a).2) 7 0 0 st.1 r k (by omega)
    refine (look_any h.tr r (key := k) (by omega)).mono ?_
    rintro e w' ⟨v, he, ht, ho, hs, hb⟩
    obtain ⟨A, n, c, rfl, hnc, hsb⟩ := hs
    refine ⟨A, n, c, _, _, _, he, h.next (st' := (_, st.2)) ht ho hg.grw, ho, hg, ?_, ha.2.1, fun e => ?_⟩
    · obtain ⟨c, h1, h2⟩ := ha.1
      exact ⟨c, by omega, h2⟩
    · have h1 := ha.2.2 e
      have := hsb.1
      rw [h1] at this
      simpa using this.symm
  · refine (look_bad w T r hk).mono ?_
    rintro e w' ⟨he, hb⟩
    exact ⟨none, 0, 0, false, 1, st.1, he, h.up hb, Off.of_below hb, SameG.refl _, ⟨0, by omega, rfl⟩, fun e => (by cases e), fun _ => rfl⟩
theorem y_getL (h : ShY W w S T O st) {r : Int × Int} {k : Nat} (hk : k < 16777216) {v : Bytes} (hl : Leads (shRdB st.1) k v 0 0 r) :
    Calls Try.prog 23 #[.pointer (some ⟨T, 0, none⟩), .agg #[.int .i64 r.1, .int .i64 r.2], .int .i64 (k : Nat)] w fun e w' => ∃ A n c s', e = .returned (.tuple #[.slice A n c, .bool true, .int .i64 0]) ∧ SBy w' A n v ∧ ShY W w' S T O (s', st.2) ∧ Off O w w' ∧ SameG st.1 s' := by
  have hg := lookG 7 st.1 r 0 0 k
  obtain ⟨s', e'⟩ := look_leads shPB hl 7 st.1 (by omega) (by omega) h.inn rfl
  refine (look_any h.tr r hk).mono ?_
  rintro e w' ⟨v', he, ht, ho, hs, hb⟩
  rw [e'] at he ht hs hg
  obtain ⟨A, n, c, rfl, hnc, hsb⟩ := hs
  exact ⟨A, n, c, s', he, hsb, h.next (st' := (s', st.2)) ht ho hg.grw, ho, hg⟩
/-- Set or Delete has answered. -/
structure YSet (W w w' : World) (S T : Nat) (O O' : Nat → Prop) (st st' : ShS × Int) (m : Nat) : Prop where
  l : ShY W w' S T O' st'
  off : Off (OT O T) w w'
  hO : ∀ k, O' k → O k ∨ w.heap.size ≤ k
  rdy : shK.Rdy st'.1 m
theorem y_set (h : ShY W w S T O st) {m : Nat} (hr : shK.Rdy st.1 (m + 7)) (r : Int × Int) (key : Int) {v : Value} {L : Bytes} (hv : SlB w v L) (hL : L.length ≤ 256) (hvo : VIn (Out O T) v) :
    Calls Try.prog 22 #[.pointer (some ⟨T, 0, none⟩), .agg #[.int .i64 r.1, .int .i64 r.2], .int .i64 key, v] w fun e w' => ∃ O' st' r' er, e = .returned (.tuple #[.agg #[.int .i64 r'.1, .int .i64 r'.2], .int .i64 er]) ∧ YSet W w w' S T O O' st st' m ∧ (er = 0 → ∃ k : Nat, key = (k : Int) ∧ k < 16777216 ∧ Leads (shRdB st'.1) k L 0 0 r') := by
  by_cases hk : 0 ≤ key ∧ key < 16777216
  · obtain ⟨k, rfl⟩ : ∃ k : Nat, key = (k : Int) := ⟨key.toNat, by omega⟩
    have hk' : k < 16777216 := by omega
    have hg := setG (key := k) (v := L) 7 st.1 st.2 r 0 0 h.fl
    have hgd := setF_good shK_good hk' hL 7 0 st.1 st.2 r 0 m (by omega) (by omega) hr
    have hsl := set_l (P := shPB) shK_good shPB_all hk' hL 7 0 0 st.1 st.2 r (by omega) (by omega) (front0 hk') h.inn (shK_good.mono _ _ _ hr (by omega))
    refine (set1_any shK_good h.tr (shK_good.mono _ _ _ hr (by omega)) r hk' hv hL hvo).mono ?_
    rintro e w' ⟨O', he, ht, ho, hO⟩
    generalize setF shK 7 (st.1, st.2) r 0 0 k L = y at *
    obtain ⟨st', r', er⟩ := y
    simp only [outY] at he ht
    refine ⟨O', st', _, er, he, ⟨h.next ht ho hg, ho, hO, hgd.1⟩, fun e0 => ⟨k, rfl, hk', ?_⟩⟩
    rw [if_pos e0]
    exact (hsl e0).ld
  · obtain ⟨A, n, c, rfl, hnc, hsb⟩ := hv
    refine (set1_bad h.tr r rfl (er := 1) (.inl ⟨hk, rfl⟩)).mono ?_
    rintro e w' ⟨O', he, ht, ho, hO⟩
    exact ⟨O', st, (0, 0), 1, he, ⟨h.next ht ho (Grw.refl _), ho, hO, shK_good.mono _ _ _ hr (by omega)⟩, fun e => by cases e⟩
theorem y_del (h : ShY W w S T O st) {m : Nat} (hr : shK.Rdy st.1 (m + 7)) (r : Int × Int) (key : Int) :
    Calls Try.prog 24 #[.pointer (some ⟨T, 0, none⟩), .agg #[.int .i64 r.1, .int .i64 r.2], .int .i64 key] w fun e w' => ∃ O' st' v, e = .returned v ∧ YSet W w w' S T O O' st st' m := by
  by_cases hk : 0 ≤ key ∧ key < 16777216
  · obtain ⟨k, rfl⟩ : ∃ k : Nat, key = (k : Int) := ⟨key.toNat, by omega⟩
    have hk' : k < 16777216 := by omega
    have hg := cutG (key := k) 7 st.1 st.2 r 0 0 h.fl
    have hgd := cutF_good shK_good hk' 7 0 st.1 st.2 r 0 m (by omega) (by omega) hr
    refine (delete_any shK_good h.tr (shK_good.mono _ _ _ hr (by omega)) r hk').mono ?_
    rintro e w' ⟨O', he, ht, ho, hO⟩
    exact ⟨O', _, _, he, ⟨h.next ht ho hg, ho, hO, hgd.1⟩⟩
  · refine (delete_bad h.tr r hk).mono ?_
    rintro e w' ⟨O', he, ht, ho, hO⟩
    exact ⟨O', st, _, he, ⟨h.next ht ho (Grw.refl _), ho, hO, shK_good.mono _ _ _ hr (by omega)⟩⟩
theorem y_check (h : ShY W w S T O st) (hr : shK.Rdy st.1 0) (r : Int × Int) :
    Calls Try.prog 25 #[.pointer (some ⟨T, 0, none⟩), .agg #[.int .i64 r.1, .int .i64 r.2]] w fun e w' => ∃ s' n er, e = .returned (.tuple #[.int .i64 n, .int .i64 er]) ∧ ShY W w' S T O (s', st.2) ∧ Off O w w' ∧ SameG st.1 s' ∧ (er = 0 → n = (walkF shK (pairsC chkF) 7 (st.1, 1048576, 0) r 0 0).1.2.2) := by
  have hg := walkG (pairsC chkF) 7 (st.1, 1048576, 0) r 0 0
  refine (check_any (M := shX W S) shK_good h.tr hr r).mono ?_
  rintro e w' ⟨he, ht, ho⟩
  exact ⟨_, _, _, he, h.next (st' := (_, st.2)) ht ho hg.grw, ho, hg, fun e0 => if_pos e0⟩
theorem y_nodes (h : ShY W w S T O st) (hr : shK.Rdy st.1 0) (r : Int × Int) :
    Calls Try.prog 19 #[.pointer (some ⟨T, 0, none⟩), .agg #[.int .i64 r.1, .int .i64 r.2]] w fun e w' => ∃ s' v, e = .returned v ∧ ShY W w' S T O (s', st.2) ∧ Off O w w' ∧ SameG st.1 s' := by
  have hg := walkG cbN 7 (st.1, 1048576, []) r 0 0
  refine (nodes_any (M := shX W S) shK_good h.tr hr r).mono ?_
  rintro e w' ⟨ht, ho, h3⟩
  have hl := h.next (st' := (_, st.2)) ht ho hg.grw
  rcases h3 with ⟨_, he⟩ | ⟨_, A, c, he, _⟩
  · exact ⟨_, _, he, hl, ho, hg⟩
  · exact ⟨_, _, he, hl, ho, hg⟩
end
end Go.Proofs.Ytgkdggidgaifhaa
namespace Go.Proofs.Ytgkdggidgaifhaa
open Go.RowKit
set_option linter.unusedVariables false
set_option linter.unusedSimpArgs false
theorem list_lit {n : Nat} (l : List Value) (h : l.length = n) : l = (List.range n).map fun k => l.getD k undef := by
  refine List.ext_getElem (by simp [h]) fun i h1 h2 => ?_
  rw [List.getElem_map, List.getElem_range, List.getD_eq_getElem?_getD, List.getElem?_eq_getElem h1, Option.getD_some]
set_option maxRecDepth 100000 in
theorem list_fn (t : Nat → Value) : ((List.range 253).map t).toArray = List.toArray (t 0 :: t 1 :: t 2 :: t 3 :: t 4 :: t 5 :: t 6 :: t 7 :: t 8 :: t 9 :: t 10 :: t 11 :: t 12 :: t 13 :: t 14 :: t 15 :: t 16 :: t 17 :: t 18 :: t 19 :: t 20 :: t 21 :: t 22 :: t 23 :: t 24 :: t 25 :: t 26 :: t 27 :: t 28 :: t 29 :: t 30 :: t 31 :: t 32 :: t 33 :: t 34 :: t 35 :: t 36 :: t 37 :: t 38 :: t 39 :: t 40 :: t 41 :: t 42 :: t 43 :: t 44 :: t 45 :: t 46 :: t 47 :: t 48 :: t 49 :: t 50 :: t 51 :: t 52 :: t 53 :: t 54 :: t 55 :: t 56 :: t 57 :: t 58 :: t 59 :: t 60 :: t 61 :: t 62 :: t 63 :: t 64 :: t 65 :: t 66 :: t 67 :: t 68 :: t 69 :: t 70 :: t 71 :: t 72 :: t 73 :: t 74 :: t 75 :: t 76 :: t 77 :: t 78 :: t 79 :: t 80 :: t 81 :: t 82 :: t 83 :: t 84 :: t 85 :: t 86 :: t 87 :: t 88 :: t 89 :: t 90 :: t 91 :: t 92 :: t 93 :: t 94 :: t 95 :: t 96 :: t 97 :: t 98 :: t 99 :: t 100 :: t 101 :: t 102 :: t 103 :: t 104 :: t 105 :: t 106 :: t 107 :: t 108 :: t 109 :: t 110 :: t 111 :: t 112 :: t 113 :: t 114 :: t 115 :: t 116 :: t 117 :: t 118 :: t 119 :: t 120 :: t 121 :: t 122 :: t 123 :: t 124 :: t 125 :: t 126 :: t 127 :: t 128 :: t 129 :: t 130 :: t 131 :: t 132 :: t 133 :: t 134 :: t 135 :: t 136 :: t 137 :: t 138 :: t 139 :: t 140 :: t 141 :: t 142 :: t 143 :: t 144 :: t 145 :: t 146 :: t 147 :: t 148 :: t 149 :: t 150 :: t 151 :: t 152 :: t 153 :: t 154 :: t 155 :: t 156 :: t 157 :: t 158 :: t 159 :: t 160 :: t 161 :: t 162 :: t 163 :: t 164 :: t 165 :: t 166 :: t 167 :: t 168 :: t 169 :: t 170 :: t 171 :: t 172 :: t 173 :: t 174 :: t 175 :: t 176 :: t 177 :: t 178 :: t 179 :: t 180 :: t 181 :: t 182 :: t 183 :: t 184 :: t 185 :: t 186 :: t 187 :: t 188 :: t 189 :: t 190 :: t 191 :: t 192 :: t 193 :: t 194 :: t 195 :: t 196 :: t 197 :: t 198 :: t 199 :: t 200 :: t 201 :: t 202 :: t 203 :: t 204 :: t 205 :: t 206 :: t 207 :: t 208 :: t 209 :: t 210 :: t 211 :: t 212 :: t 213 :: t 214 :: t 215 :: t 216 :: t 217 :: t 218 :: t 219 :: t 220 :: t 221 :: t 222 :: t 223 :: t 224 :: t 225 :: t 226 :: t 227 :: t 228 :: t 229 :: t 230 :: t 231 :: t 232 :: t 233 :: t 234 :: t 235 :: t 236 :: t 237 :: t 238 :: t 239 :: t 240 :: t 241 :: t 242 :: t 243 :: t 244 :: t 245 :: t 246 :: t 247 :: t 248 :: t 249 :: t 250 :: t 251 :: t 252 :: List.nil) := by kernel_rfl
set_option maxRecDepth 100000 in
theorem arr_lit {A : Array Value} (h : A.size = 253) : ∃ t : Nat → Value, A = List.toArray (t 0 :: t 1 :: t 2 :: t 3 :: t 4 :: t 5 :: t 6 :: t 7 :: t 8 :: t 9 :: t 10 :: t 11 :: t 12 :: t 13 :: t 14 :: t 15 :: t 16 :: t 17 :: t 18 :: t 19 :: t 20 :: t 21 :: t 22 :: t 23 :: t 24 :: t 25 :: t 26 :: t 27 :: t 28 :: t 29 :: t 30 :: t 31 :: t 32 :: t 33 :: t 34 :: t 35 :: t 36 :: t 37 :: t 38 :: t 39 :: t 40 :: t 41 :: t 42 :: t 43 :: t 44 :: t 45 :: t 46 :: t 47 :: t 48 :: t 49 :: t 50 :: t 51 :: t 52 :: t 53 :: t 54 :: t 55 :: t 56 :: t 57 :: t 58 :: t 59 :: t 60 :: t 61 :: t 62 :: t 63 :: t 64 :: t 65 :: t 66 :: t 67 :: t 68 :: t 69 :: t 70 :: t 71 :: t 72 :: t 73 :: t 74 :: t 75 :: t 76 :: t 77 :: t 78 :: t 79 :: t 80 :: t 81 :: t 82 :: t 83 :: t 84 :: t 85 :: t 86 :: t 87 :: t 88 :: t 89 :: t 90 :: t 91 :: t 92 :: t 93 :: t 94 :: t 95 :: t 96 :: t 97 :: t 98 :: t 99 :: t 100 :: t 101 :: t 102 :: t 103 :: t 104 :: t 105 :: t 106 :: t 107 :: t 108 :: t 109 :: t 110 :: t 111 :: t 112 :: t 113 :: t 114 :: t 115 :: t 116 :: t 117 :: t 118 :: t 119 :: t 120 :: t 121 :: t 122 :: t 123 :: t 124 :: t 125 :: t 126 :: t 127 :: t 128 :: t 129 :: t 130 :: t 131 :: t 132 :: t 133 :: t 134 :: t 135 :: t 136 :: t 137 :: t 138 :: t 139 :: t 140 :: t 141 :: t 142 :: t 143 :: t 144 :: t 145 :: t 146 :: t 147 :: t 148 :: t 149 :: t 150 :: t 151 :: t 152 :: t 153 :: t 154 :: t 155 :: t 156 :: t 157 :: t 158 :: t 159 :: t 160 :: t 161 :: t 162 :: t 163 :: t 164 :: t 165 :: t 166 :: t 167 :: t 168 :: t 169 :: t 170 :: t 171 :: t 172 :: t 173 :: t 174 :: t 175 :: t 176 :: t 177 :: t 178 :: t 179 :: t 180 :: t 181 :: t 182 :: t 183 :: t 184 :: t 185 :: t 186 :: t 187 :: t 188 :: t 189 :: t 190 :: t 191 :: t 192 :: t 193 :: t 194 :: t 195 :: t 196 :: t 197 :: t 198 :: t 199 :: t 200 :: t 201 :: t 202 :: t 203 :: t 204 :: t 205 :: t 206 :: t 207 :: t 208 :: t 209 :: t 210 :: t 211 :: t 212 :: t 213 :: t 214 :: t 215 :: t 216 :: t 217 :: t 218 :: t 219 :: t 220 :: t 221 :: t 222 :: t 223 :: t 224 :: t 225 :: t 226 :: t 227 :: t 228 :: t 229 :: t 230 :: t 231 :: t 232 :: t 233 :: t 234 :: t 235 :: t 236 :: t 237 :: t 238 :: t 239 :: t 240 :: t 241 :: t 242 :: t 243 :: t 244 :: t 245 :: t 246 :: t 247 :: t 248 :: t 249 :: t 250 :: t 251 :: t 252 :: List.nil) ∧ ∀ k, t k = A.getD k undef := by
  refine ⟨fun k => A.getD k undef, Eq.trans ?_ (list_fn fun k => A.getD k undef), fun _ => rfl⟩
  have h1 := list_lit A.toList (by simpa using h)
  have h2 : (fun k => A.toList.getD k undef) = fun k => A.getD k undef := by
    funext k
    rw [List.getD_eq_getElem?_getD, Array.getD_eq_getD_getElem?]
    simp
  rw [h2] at h1
  rw [← h1]
/-- The blocks of the deferred calls that the loops over functions have left. -/
def dfs (Ds : List Nat) : List Deferred := Ds.map fun D => { target := .collected D, args := #[] }
theorem leaves_dfs {P : Program} {fn : Func} {tmps : Array Value} {R : Ending → World → Prop} {F : Fence} {m : Nat} (v : Value) : ∀ (Ds : List Nat) (w : World), (∀ D ∈ Ds, w.heap[D]? = some (.deferred (some []))) → Ds.Nodup →
    (∀ w', (results fn tmps).run P w' = .ok v w') → (∀ w', Off (fun g => g ∈ Ds) w w' → R (.returned v) w') → LeavesInM F m P fn tmps R (dfs Ds) .returning w := by
  intro Ds
  induction Ds with
  | nil =>
    intro w hD hn hr hR
    exact ⟨v, hr w, hR w (Off.refl _ _)⟩
  | cons D Ds ih =>
    intro w hD hn hr hR
    have hK := hD D (by simp)
    refine ⟨by simp, .inl ⟨D, _, rfl, run_takeDeferred hK, ?_⟩⟩
    have hn2 := List.nodup_cons.1 hn
    have hoff : Off (· = D) w (w.putObj D (.deferred none)) := ⟨rfl, rfl, rfl, by simp [World.putObj], fun k hk hne => by simp [World.putObj, Ne.symm hne]⟩
    refine ih _ (fun E hE => ?_) hn2.2 hr (fun w' ho => hR w' ?_)
    · rw [hoff.block E (Array.getElem?_eq_some_iff.1 (hD E (by simp [hE]))).1 (fun e => hn2.1 (e ▸ hE))]
      exact hD E (by simp [hE])
    · exact (hoff.mono (fun k e => by rw [e]; simp)).trans (ho.mono (fun k e => by simp [e]))
/-- The law comes to an end. -/
theorem any_end {W V : World} {Ds : List Nat} {Tm : Array Value} (hb : Below W.heap.size W V) (hd : ∀ D ∈ Ds, W.heap.size ≤ D ∧ V.heap[D]? = some (.deferred (some []))) (hn : Ds.Nodup) (hT : Tm.getD 10 undef = .bool true) :
    bodyPostM Fence.wide 9 Try.prog Try.f6 (fun e w' => e = .returned (.bool true) ∧ Below W.heap.size W w') .ret { tmps := Tm, defers := dfs Ds } V :=
  leaves_dfs (.bool true) Ds V (fun D hD => (hd D hD).2) hn (fun w' => by rw [← hT]; exact results_tmp rfl Tm _ _) fun w' ho => ⟨rfl, hb.trans (ho.below (fun g hg => (hd g hg).1) hb.size)⟩
theorem any_end0 {W V : World} {Tm : Array Value} (hb : Below W.heap.size W V) (hT : Tm.getD 10 undef = .bool true) :
    bodyPostM Fence.wide 9 Try.prog Try.f6 (fun e w' => e = .returned (.bool true) ∧ Below W.heap.size W w') .ret { tmps := Tm, defers := [] } V :=
  any_end (Ds := []) hb (fun D h => (by cases h)) List.nodup_nil hT
/-- Between two calls: the tree, the row of the roots, what the loops have left. -/
structure Kp (W w : World) (S T G : Nat) (ρ : Nat → Int × Int) (Ds : List Nat) (O : Nat → Prop) (st : ShS × Int) : Prop where
  l : ShY W w S T O st
  row : ∀ k, k < 3 → w.cell? ⟨G, k * 2, none⟩ = some (.int .i64 (ρ k).1) ∧ w.cell? ⟨G, k * 2 + 1, none⟩ = some (.int .i64 (ρ k).2)
  oG : Out O T G
  ds : ∀ D ∈ Ds, W.heap.size ≤ D ∧ w.heap[D]? = some (.deferred (some [])) ∧ Out O T D
  nd : Ds.Nodup
section
variable {W w w' : World} {S T G : Nat} {ρ : Nat → Int × Int} {Ds : List Nat} {O O' : Nat → Prop} {st st' : ShS × Int} {P : Nat → Prop}
theorem Kp.lt (h : Kp W w S T G ρ Ds O st) : G < w.heap.size := lt_of_cell (h.row 0 (by omega)).1
theorem Kp.off (h : Kp W w S T G ρ Ds O st) (ho : Off P w w') (hl : ShY W w' S T O' st') (hG : ¬ P G) (hD : ∀ D ∈ Ds, ¬ P D) (hO : ∀ k, k < w.heap.size → Out O T k → Out O' T k) : Kp W w' S T G ρ Ds O' st' :=
  ⟨hl, fun k hk => ⟨(ho.cell (p := ⟨G, k * 2, none⟩) h.lt hG).trans (h.row k hk).1, (ho.cell (p := ⟨G, k * 2 + 1, none⟩) h.lt hG).trans (h.row k hk).2⟩, hO G h.lt h.oG, fun D hDs => by
    obtain ⟨d1, d2, d3⟩ := h.ds D hDs
    have hl := (Array.getElem?_eq_some_iff.1 d2).1
    exact ⟨d1, (ho.block D hl (hD D hDs)).trans d2, hO D hl d3⟩, h.nd⟩
theorem Kp.up (h : Kp W w S T G ρ Ds O st) (hb : Below w.heap.size w w') : Kp W w' S T G ρ Ds O st := h.off (P := fun _ => False) (Off.of_below hb) (h.l.up hb) id (fun _ _ => id) (fun _ _ => id)
theorem Kp.get {s' : ShS} (h : Kp W w S T G ρ Ds O st) (hl : ShY W w' S T O (s', st.2)) (ho : Off O w w') : Kp W w' S T G ρ Ds O (s', st.2) := h.off ho hl h.oG.1 (fun D hD => (h.ds D hD).2.2.1) (fun _ _ => id)
theorem Kp.set {m : Nat} {w1 : World} (h : Kp W w S T G ρ Ds O st) (hb : Below w.heap.size w w1) (k : YSet W w1 w' S T O O' st st' m) : Kp W w' S T G ρ Ds O' st' := by
  refine (h.up hb).off k.off k.l (fun e => e.elim h.oG.1 h.oG.2) (fun D hD e => ?_) fun i hi hO => ⟨fun e => (k.hO i e).elim hO.1 (fun e => by omega), hO.2⟩
  obtain ⟨d1, d2, d3⟩ := h.ds D hD
  exact e.elim d3.1 d3.2
theorem Kp.add (h : Kp W w S T G ρ Ds O st) {D : Nat} (hD : W.heap.size ≤ D) (hk : w.heap[D]? = some (.deferred (some []))) (ho : Out O T D) (hn : D ∉ Ds) : Kp W w S T G ρ (D :: Ds) O st :=
  ⟨h.l, h.row, h.oG, fun E hE => by
    rcases List.mem_cons.1 hE with rfl | hE
    · exact ⟨hD, hk, ho⟩
    · exact h.ds E hE, List.nodup_cons.2 ⟨hn, h.nd⟩⟩
theorem ShX.setGets {s : ShS} (h : ShX W S w O s) (x : Int) : ShX W S (w.setCell ⟨S, 4, none⟩ (.int .i64 x)) O { s with gets := x } := by
  obtain ⟨rv, vs, ov, h1, h2, h3, h4, h5, h6, h7⟩ := h
  exact ⟨rv, vs, ov, h1.setGets x, h2, h3, h4, h5, fun k hk => by have := h6 k hk; simpa using this, fun k hk => ⟨(h7 k hk).1, (((Off.refl (· = S) w).setCell (p := ⟨S, 4, none⟩) rfl (.int .i64 x)).block k (h6 k (h7 k hk).1) (fun e => by have := h2.2; omega)).trans (h7 k hk).2⟩⟩
theorem ShX.cells {s : ShS} (h : ShX W S w O s) : w.cell? ⟨S, 4, none⟩ = some (.int .i64 s.gets) ∧ w.frozen? ⟨S, 4, none⟩ = false ∧ O S := by
  obtain ⟨rv, vs, ov, h1, h2, h3, h4, h5, h6, h7⟩ := h
  exact ⟨h1.c4, h1.fr 4, h2.1⟩
theorem Kp.zero (h : Kp W w S T G ρ Ds O st) : Kp W (w.setCell ⟨S, 4, none⟩ (.int .i64 0)) S T G ρ Ds O ({ st.1 with gets := 0 }, st.2) := by
  have ho : Off (· = S) w (w.setCell ⟨S, 4, none⟩ (.int .i64 0)) := (Off.refl (· = S) w).setCell (p := ⟨S, 4, none⟩) rfl _
  have hS := (ShX.cells h.l.tr.at_).2.2
  have hST : ¬ T = S := fun e => h.l.tr.ne (by rw [e]; exact hS)
  have hlt := h.l.tr.lt
  refine h.off ho (h.l.next (st' := ({ st.1 with gets := 0 }, st.2)) ⟨ShX.setGets h.l.tr.at_ 0, h.l.tr.ne, (ho.cell (p := ⟨T, 0, none⟩) hlt hST).trans h.l.tr.sk, (ho.cell (p := ⟨T, 1, none⟩) hlt hST).trans h.l.tr.pu, (ho.frozen (p := ⟨T, 1, none⟩) hlt hST).trans h.l.tr.fr⟩ ho ⟨⟨[], by simp⟩, rfl, rfl, rfl⟩)
    (fun e => h.oG.1 (by rw [e]; exact hS)) (fun D hD e => (h.ds D hD).2.2.1 (by rw [e]; exact hS)) (fun _ _ => id)
end
end Go.Proofs.Ytgkdggidgaifhaa
namespace Go.Proofs.Ytgkdggidgaifhaa
open Go.RowKit
set_option linter.unusedVariables false
set_option linter.unusedSimpArgs false
structure Md (W w : World) (S T g13 gR : Nat) (O : Nat → Prop) (st : ShS × Int) (r ro : Int × Int) : Prop where
  l : ShY W w S T O st
  b1 : BoxA w g13 r
  o1 : Out O T g13
  b2 : BoxA w gR ro
  o2 : Out O T gR
  rdy : shK.Rdy st.1 50
theorem md_of {W w : World} {S T g13 gR : Nat} {O : Nat → Prop} {st : ShS × Int} {r ro : Int × Int} (h : RtAt W w S T g13 O st r) (h2 : RtAt W w S T gR O st ro) (hr : shK.Rdy st.1 50) (hf : st.1.full < 0) : Md W w S T g13 gR (fun k => O k ∨ k < W.heap.size) st r ro := by
  have hat := h.l.tr.at_
  obtain ⟨rv, vs, ov, h1, h2', h3, h4, h5, h6⟩ := hat
  have hO := h.l.hO
  have hs := h.l.bel.size
  have hT := h.l.hT
  have up : ∀ g, Out O T g → W.heap.size ≤ g → Out (fun k => O k ∨ k < W.heap.size) T g := fun g hg hw => ⟨fun e => e.elim hg.1 (fun e => by omega), hg.2⟩
  refine ⟨⟨⟨⟨rv, vs, ov, h1, ⟨.inl h2', hO _ h2'⟩, fun g hg => ⟨.inl (h3 g hg), hO _ (h3 g hg)⟩, fun v hv => (h4 v hv).mono fun b hb => .inl hb, h5.mono fun b hb => .inl hb, fun k hk => hk.elim (h6 k) (fun e => by omega), fun k hk => ⟨.inr hk, h.l.bel.block k hk⟩⟩, fun e => e.elim h.l.tr.ne (fun e => by omega), h.l.tr.sk, h.l.tr.pu, h.l.tr.fr⟩, hT, h.l.bel, ?_, hf⟩, h.box, up _ h.out h.ge, h2.box, up _ h2.out h2.ge, hr⟩
  have : st.1.bad < 0 := h.l.inn
  omega
section
variable {W w w' : World} {S T g13 gR : Nat} {O : Nat → Prop} {st : ShS × Int} {r ro : Int × Int}
theorem Md.out {O' : Nat → Prop} {g : Nat} (h : Out O T g) (hg : g < w.heap.size) (hO : ∀ k, k < w.heap.size → O' k → O k) : Out O' T g := ⟨fun e => h.1 (hO g hg e), h.2⟩
/-- The shelf's cells. -/
theorem ShX.row {s : ShS} (h : ShX W S w O s) : ∃ A c, w.cell? ⟨S, 0, none⟩ = some (.slice A s.L.length c) ∧ ∀ k, w.frozen? ⟨S, k, none⟩ = false := by
  obtain ⟨rv, vs, ov, h1, _⟩ := h
  have hl := h1.len
  have h0 := h1.c0
  rcases h1.row.2 with ⟨e, e0⟩ | ⟨g, cap, cur, e, _⟩
  · subst e
    exact ⟨none, 0, by rw [← hl, e0]; exact h0, h1.fr⟩
  · subst e
    exact ⟨some ⟨g, 0, none⟩, cap, by rw [← hl]; exact h0, h1.fr⟩
theorem ShX.items {s : ShS} (h : ShX W S w O s) : ∃ A c, w.cell? ⟨S, 0, none⟩ = some (.slice A s.L.length c) ∧ (∀ k, w.frozen? ⟨S, k, none⟩ = false) ∧ w.cell? ⟨S, 1, none⟩ = some (.int .i64 s.bad) ∧ (∃ x : Option Addr × Nat × Nat, w.cell? ⟨S, 2, none⟩ = some (.slice x.1 x.2.1 x.2.2)) ∧
    ∀ q, q < s.L.length → ∃ g A' n' c', A = some ⟨g, 0, none⟩ ∧ w.cell? ⟨g, q, none⟩ = some (.slice A' n' c') ∧ n' ≤ 1000000 ∧ g < w.heap.size := by
  obtain ⟨rv, vs, ov, h1, _⟩ := h
  have hl := h1.len
  have h0 := h1.c0
  have h2 : ∃ x : Option Addr × Nat × Nat, w.cell? ⟨S, 2, none⟩ = some (.slice x.1 x.2.1 x.2.2) := by
    obtain ⟨A, n, c, e, _⟩ := h1.ot
    exact ⟨(A, n, c), by rw [h1.c2, e]⟩
  have hform : ∃ A c, rv = .slice A vs.length c := by
    rcases h1.row.2 with ⟨e, e0⟩ | ⟨g, cap, cur, e, _⟩
    · subst e; exact ⟨none, 0, by rw [e0]⟩
    · subst e; exact ⟨some ⟨g, 0, none⟩, cap, rfl⟩
  obtain ⟨A, c, rfl⟩ := hform
  refine ⟨A, c, by rw [← hl]; exact h0, h1.fr, h1.c1, h2, fun q hq => ?_⟩
  have hq' : q < vs.length := by omega
  obtain ⟨gr, hgr⟩ : ∃ gr, A = some ⟨gr, 0, none⟩ := by
    rcases h1.row.2 with ⟨e, e0⟩ | ⟨g, cap, cur, e, _⟩
    · rw [e0] at hq'; simp at hq'
    · cases e; exact ⟨_, rfl⟩
  subst hgr
  obtain ⟨vj, hvj⟩ : ∃ v, vs[q]? = some v := ⟨_, List.getElem?_eq_getElem hq'⟩
  obtain ⟨bj, hbj⟩ : ∃ b, s.L[q]? = some b := ⟨_, List.getElem?_eq_getElem hq⟩
  obtain ⟨Aj, nj, cj, rfl, hcj, hsj⟩ := h1.it q _ _ hvj hbj
  have ck := World.ownsRow.cells h1.row (g := gr) rfl q _ hvj
  rw [show (⟨gr, 0, none⟩ : Addr).add q = ⟨gr, q, none⟩ by unfold Addr.add; split <;> simp_all] at ck
  exact ⟨gr, Aj, nj, cj, rfl, ck, by rw [← hsj.1]; exact h1.sz.2.1 _ (List.mem_of_getElem? hbj), lt_of_cell ck⟩
/-- The other bytes are put first. -/
theorem md_put {rv ov rv' : Value} {w4 : World} {Ao : Option Addr} {no co : Nat} {Lo : Bytes} {t : TypeId} (h : Md W w S T g13 gR O st r ro) (h1 : ShIn w S rv [] ov st.1) (h3 : ∀ g, rv.ownBlock = some g → O g ∧ W.heap.size ≤ g) (h5 : VIn O ov) (hsb : SBy W Ao no Lo) (hco : no ≤ co) (hlo : Lo.length ≤ 4000)
    (hrow : w4.ownsRow 0 38 1 rv' [Value.slice Ao no co].length [Value.slice Ao no co]) (hg : (w.alloc (.cells #[.slice Ao no co] t)).grownBy w4 rv.ownBlock) (hat : rv'.ownBlock = rv.ownBlock ∨ rv'.ownBlock = some (w.alloc (.cells #[.slice Ao no co] t)).heap.size) :
    ∃ O', Md W (w4.setCell ⟨S, 0, none⟩ rv') S T g13 gR O' ({ st.1 with L := [Lo] }, st.2) r ro := by
  have hlS := h1.lt
  have hX := h.l.tr.at_
  obtain ⟨_, _, _, _, ⟨hOS, hWS⟩, _, _, _, h6, h7⟩ := hX
  have hal : Below w.heap.size w (w.alloc (.cells #[.slice Ao no co] t)) := (Below.refl _ _).alloc (Nat.le_refl _) _
  have hsz : (w.alloc (.cells #[.slice Ao no co] t)).heap.size = w.heap.size + 1 := by simp
  have o3 : Off (fun k => rv.ownBlock = some k) w w4 := (Off.of_below hal).trans (grown_off hg)
  have hrb := World.ownsRow.lt h1.row
  have hrb4 := World.ownsRow.lt hrow
  have hrS : rv'.ownBlock ≠ some S := by
    rcases hat with e | e
    · rw [e]; exact h1.neR
    · rw [e]; simp; omega
  have o4 : Off (fun k => k = S ∨ rv.ownBlock = some k) w (w4.setCell ⟨S, 0, none⟩ rv') := (o3.mono fun _ e => Or.inr e).trans ((Off.refl _ w4).setCell (p := ⟨S, 0, none⟩) (.inl rfl) _)
  have oc : ∀ k, k ≠ 0 → (w4.setCell ⟨S, 0, none⟩ rv').cell? ⟨S, k, none⟩ = w.cell? ⟨S, k, none⟩ := fun k hk => (World.cell?_setCell_other _ _ _ _ (fun e => by injection e with _ e2; omega)).trans (o3.cell (p := ⟨S, k, none⟩) hlS h1.neR)
  have hsm : ∀ k, k < W.heap.size → (w4.setCell ⟨S, 0, none⟩ rv').heap[k]? = W.heap[k]? := fun k hk => (o4.block k (h6 k (h7 k hk).1) (fun e => e.elim (fun e => by omega) (fun e => by have := (h3 k e).2; omega))).trans (h7 k hk).2
  have hbW : Below W.heap.size W (w4.setCell ⟨S, 0, none⟩ rv') := ⟨o4.os.trans h.l.bel.os, o4.tape.trans h.l.bel.tape, o4.output.trans h.l.bel.output, Nat.le_trans h.l.bel.size o4.size, hsm⟩
  have hs4 : (w4.setCell ⟨S, 0, none⟩ rv').heap.size = w4.heap.size := by simp
  have hvin : VIn (fun b => b < W.heap.size) (.slice Ao no co) := PArg.low hsb
  have hv4 : SlB (w4.setCell ⟨S, 0, none⟩ rv') (.slice Ao no co) Lo := ⟨_, _, _, rfl, hco, hsb.up hbW⟩
  have hown : ∀ g, rv'.ownBlock = some g → W.heap.size ≤ g ∧ ((O g ∧ g < w.heap.size) ∨ (w.heap.size ≤ g ∧ g < w4.heap.size)) := fun g e => by
    have hl := (hrb4 g e).2
    rcases hat with e2 | e2
    · have := h3 g (e2.symm.trans e)
      have := h6 g this.1
      exact ⟨by omega, .inl ⟨(h3 g (e2.symm.trans e)).1, this⟩⟩
    · rw [e2] at e
      have e : (w.alloc (.cells #[.slice Ao no co] t)).heap.size = g := Option.some.inj e
      have := h.l.bel.size
      exact ⟨by omega, .inr ⟨by omega, hl⟩⟩
  have hsW := h.l.bel.size
  have ne4 : ∀ v, VIn O v → VIn (fun b => b < w.heap.size) v := fun v hv => hv.mono fun b hb => h6 b hb
  have hneO : ¬ O T := h.l.tr.ne
  have hTl := h.l.tr.lt
  have hne : ∀ g, Out O T g → ¬ (g = S ∨ rv.ownBlock = some g) := fun g hg e => e.elim (fun e => hg.1 (by rw [e]; exact hOS)) (fun e => hg.1 (h3 g e).1)
  have hT4 : ¬ (T = S ∨ rv.ownBlock = some T) := fun e => e.elim (fun e => hneO (by rw [e]; exact hOS)) (fun e => hneO (h3 T e).1)
  have outs : ∀ g, Out O T g → g < w.heap.size → Out (fun k => O k ∨ (w.heap.size ≤ k ∧ k < w4.heap.size)) T g := fun g hg hl => ⟨fun e => e.elim hg.1 (fun e => by omega), hg.2⟩
  refine ⟨fun k => O k ∨ (w.heap.size ≤ k ∧ k < w4.heap.size), ⟨⟨⟨rv', [.slice Ao no co], ov, ⟨World.cell?_setCell_same _ _ _ ((o3.cell (p := ⟨S, 0, none⟩) hlS h1.neR).trans h1.c0), (oc 1 (by omega)).trans h1.c1, (oc 2 (by omega)).trans h1.c2, (oc 3 (by omega)).trans h1.c3, (oc 4 (by omega)).trans h1.c4, fun k => (World.frozen?_setCell _ _ _ _).trans ((o3.frozen (p := ⟨S, k, none⟩) hlS h1.neR).trans (h1.fr k)),
    row_off hrow ((Off.refl (· = S) w4).setCell (p := ⟨S, 0, none⟩) rfl _) (fun g hg e => hrS (by rw [hg, e])), rfl, fun i v b e1 e2 => ?_, h1.ot.offP o4 (h1.neO.mono fun k hk e => e.elim hk.1 hk.2), hrS, fun v hv => ?_, ?_, ⟨by have := h.rdy.1; show 1 + 0 ≤ _; omega, fun b hb => by rw [List.mem_singleton.1 hb]; omega, h.rdy.2.2⟩, fun k hk => (oc k (by omega)).trans (h1.big k hk)⟩,
    ⟨.inl hOS, hWS⟩, fun g e => ⟨(hown g e).2.imp (fun e => e.1) id, (hown g e).1⟩, fun v hv => ?_, h5.mono fun b hb => .inl hb, fun k hk => hk.elim (fun e => by have := h6 k e; have := o4.size; omega) (fun e => by omega), fun k hk => ⟨.inl (h7 k hk).1, hsm k hk⟩⟩, fun e => e.elim hneO (fun e => by omega), (o4.cell (p := ⟨T, 0, none⟩) hTl hT4).trans h.l.tr.sk, (o4.cell (p := ⟨T, 1, none⟩) hTl hT4).trans h.l.tr.pu, (o4.frozen (p := ⟨T, 1, none⟩) hTl hT4).trans h.l.tr.fr⟩, h.l.hT, hbW, ?_, h.l.fl⟩,
    h.b1.off o4 (hne _ h.o1), outs _ h.o1 h.b1.lt, h.b2.off o4 (hne _ h.o2), outs _ h.o2 h.b2.lt, ⟨by show 1 + 50 ≤ _; omega, fun b hb => by rw [List.mem_singleton.1 hb]; omega, h.rdy.2.2⟩⟩
  · cases i with
    | zero => simp at e1 e2; subst e1 e2; exact hv4
    | succ i => simp at e1
  · rw [List.mem_singleton.1 hv]
    refine hvin.mono fun b hb => ⟨by omega, fun e => ?_⟩
    have := (hown b e).1
    omega
  · refine fun k o n' c' e h0 => ⟨(h1.neO k o n' c' e h0).1, fun e2 => ?_⟩
    have h8 := h1.neO k o n' c' e h0
    have h9 := ne4 _ h5 k o n' c' e h0
    rcases hat with e3 | e3
    · exact h8.2 (e3.symm.trans e2)
    · rw [e3] at e2
      have e2 := Option.some.inj e2
      omega
  · rw [List.mem_singleton.1 hv]
    exact hvin.mono fun b hb => .inl (h7 b hb).1
  · show st.1.bad < (([Lo] : List Bytes).length : Int)
    have := h.l.inn
    have hlen := h1.len
    have : st.1.L.length = 0 := by rw [← hlen]; rfl
    simp
    omega
/-- The place and the other bytes are laid into the shelf. -/
theorem md_bad {q : Nat} {Ao : Option Addr} {no co : Nat} {Lo : Bytes} (h : Md W w S T g13 gR O st r ro) (hq : q < st.1.L.length) (hsb : SBy W Ao no Lo) (hco : no ≤ co) (hlo : Lo.length ≤ 4000) :
    Md W ((w.setCell ⟨S, 1, none⟩ (.int .i64 (q : Nat))).setCell ⟨S, 2, none⟩ (.slice Ao no co)) S T g13 gR O ({ st.1 with bad := (q : Int), other := Lo }, st.2) r ro := by
  have hX := h.l.tr.at_
  obtain ⟨rv, vs, ov, h1, ⟨hOS, hWS⟩, h3, h4, h5, h6, h7⟩ := hX
  have ho1 : Off (· = S) w (w.setCell ⟨S, 1, none⟩ (.int .i64 (q : Nat))) := (Off.refl (· = S) w).setCell (p := ⟨S, 1, none⟩) rfl _
  have ho : Off (· = S) w ((w.setCell ⟨S, 1, none⟩ (.int .i64 (q : Nat))).setCell ⟨S, 2, none⟩ (.slice Ao no co)) := ho1.setCell (p := ⟨S, 2, none⟩) rfl _
  have oc : ∀ k, k ≠ 1 → k ≠ 2 → ((w.setCell ⟨S, 1, none⟩ (.int .i64 (q : Nat))).setCell ⟨S, 2, none⟩ (.slice Ao no co)).cell? ⟨S, k, none⟩ = w.cell? ⟨S, k, none⟩ := fun k hk hk2 => (World.cell?_setCell_other _ _ _ _ (fun e => by injection e with _ e2; omega)).trans (World.cell?_setCell_other _ _ _ _ (fun e => by injection e with _ e2; omega))
  have hsm : ∀ k, k < W.heap.size → ((w.setCell ⟨S, 1, none⟩ (.int .i64 (q : Nat))).setCell ⟨S, 2, none⟩ (.slice Ao no co)).heap[k]? = W.heap[k]? := fun k hk => (ho.block k (h6 k (h7 k hk).1) (fun e => by omega)).trans (h7 k hk).2
  have hbW : Below W.heap.size W ((w.setCell ⟨S, 1, none⟩ (.int .i64 (q : Nat))).setCell ⟨S, 2, none⟩ (.slice Ao no co)) := ⟨ho.os.trans h.l.bel.os, ho.tape.trans h.l.bel.tape, ho.output.trans h.l.bel.output, Nat.le_trans h.l.bel.size ho.size, hsm⟩
  have hvin : VIn (fun b => b < W.heap.size) (.slice Ao no co) := PArg.low hsb
  have hneO : ¬ O T := h.l.tr.ne
  have hTl := h.l.tr.lt
  have hTS : ¬ T = S := fun e => hneO (by rw [e]; exact hOS)
  have hne : ∀ g, Out O T g → ¬ g = S := fun g hg e => hg.1 (by rw [e]; exact hOS)
  have hrd : shK.Rdy { st.1 with bad := (q : Int), other := Lo } 50 := ⟨h.rdy.1, h.rdy.2.1, by show Lo.length ≤ _; omega, h.rdy.2.2.2⟩
  refine ⟨⟨⟨⟨rv, vs, .slice Ao no co, ⟨(oc 0 (by omega) (by omega)).trans h1.c0, (World.cell?_setCell_other _ _ _ _ (fun e => by injection e with _ e2; omega)).trans (World.cell?_setCell_same _ _ _ h1.c1), World.cell?_setCell_same _ _ _ ((World.cell?_setCell_other _ _ _ _ (fun e => by injection e with _ e2; omega)).trans h1.c2), (oc 3 (by omega) (by omega)).trans h1.c3, (oc 4 (by omega) (by omega)).trans h1.c4, fun k => (World.frozen?_setCell _ _ _ _).trans ((World.frozen?_setCell _ _ _ _).trans (h1.fr k)),
    row_off h1.row ho (fun g hg e => h1.neR (by rw [hg, e])), h1.len, fun i v b e1 e2 => (h1.it i v b e1 e2).offP ho ((h1.neI v (List.mem_of_getElem? e1)).mono fun b hb => hb.1), ⟨_, _, _, rfl, hco, hsb.up hbW⟩, h1.neR, h1.neI, hvin.mono fun b hb => ⟨by omega, fun e => by have := (h3 b e).2; omega⟩, shK_good.mono _ _ _ hrd (by omega), fun k hk => (oc k (by omega) (by omega)).trans (h1.big k hk)⟩,
    ⟨hOS, hWS⟩, h3, h4, hvin.mono fun b hb => (h7 b hb).1, fun k hk => by have := h6 k hk; simpa using this, fun k hk => ⟨(h7 k hk).1, hsm k hk⟩⟩, hneO, (ho.cell (p := ⟨T, 0, none⟩) hTl hTS).trans h.l.tr.sk, (ho.cell (p := ⟨T, 1, none⟩) hTl hTS).trans h.l.tr.pu, (ho.frozen (p := ⟨T, 1, none⟩) hTl hTS).trans h.l.tr.fr⟩, h.l.hT, hbW, by show (q : Int) < (st.1.L.length : Int); omega, h.l.fl⟩,
    h.b1.off ho (hne _ h.o1), h.o1, h.b2.off ho (hne _ h.o2), h.o2, hrd⟩
/-- The row of the three roots is made. -/
def rho (r ro x : Int × Int) : Nat → Int × Int := fun k => if k = 0 then r else if k = 1 then ro else x
theorem kp_start {bx : Int × Int} {t : TypeId} (h : Md W w S T g13 gR O st r ro) : Kp W ((w.alloc (.cells #[.int .i64 r.1, .int .i64 r.2, .int .i64 ro.1, .int .i64 ro.2, .int .i64 bx.1, .int .i64 bx.2] t)).drew) S T w.heap.size (rho r ro bx) [] O st := by
  have hb : Below w.heap.size w (w.alloc (.cells #[.int .i64 r.1, .int .i64 r.2, .int .i64 ro.1, .int .i64 ro.2, .int .i64 bx.1, .int .i64 bx.2] t)).drew := ((Below.refl _ _).alloc (Nat.le_refl _) _).drew
  have hc : ∀ k v, (#[.int .i64 r.1, .int .i64 r.2, .int .i64 ro.1, .int .i64 ro.2, .int .i64 bx.1, .int .i64 bx.2] : Array Value)[k]? = some v → (w.alloc (.cells #[.int .i64 r.1, .int .i64 r.2, .int .i64 ro.1, .int .i64 ro.2, .int .i64 bx.1, .int .i64 bx.2] t)).drew.cell? ⟨w.heap.size, k, none⟩ = some v := fun k v hv => by
    have h1 : (w.alloc (.cells #[.int .i64 r.1, .int .i64 r.2, .int .i64 ro.1, .int .i64 ro.2, .int .i64 bx.1, .int .i64 bx.2] t)).cell? ⟨w.heap.size, k, none⟩ = some v := by
      rw [cell_of_row _ _ _ _ _ _ (heap_alloc_new w _)]; exact hv
    exact h1
  refine ⟨h.l.up hb, fun k hk => ?_, h.l.tr.outOf (Nat.le_refl _), fun D hD => (by cases hD), List.nodup_nil⟩
  have hcs : k = 0 ∨ k = 1 ∨ k = 2 := by omega
  rcases hcs with rfl | rfl | rfl
  · exact ⟨hc 0 _ rfl, hc 1 _ rfl⟩
  · exact ⟨hc 2 _ rfl, hc 3 _ rfl⟩
  · exact ⟨hc 4 _ rfl, hc 5 _ rfl⟩
/-- Between two rounds. -/
def RdI (W : World) (S T G : Nat) (ρ : Nat → Int × Int) (key : Int) (a' : Act) (w' : World) : Prop :=
  ∃ (A : Array Value) (Ds : List Nat) (j : Nat) (O : Nat → Prop) (st : ShS × Int), a' = { tmps := A, defers := dfs Ds } ∧ A.size = 253 ∧ A.getD 4 undef = .int .i64 key ∧ A.getD 11 undef = .pointer (some ⟨S, 0, none⟩) ∧ A.getD 12 undef = .pointer (some ⟨T, 0, none⟩) ∧ A.getD 17 undef = .slice (some ⟨G, 0, none⟩) 3 3 ∧ A.getD 18 undef = .int .i64 (j : Nat) ∧ j ≤ 3 ∧ Kp W w' S T G ρ Ds O st ∧ shK.Rdy st.1 (14 * (3 - j))
end
end Go.Proofs.Ytgkdggidgaifhaa
