/- radix: Set and Delete answer as a map does. -/
import Derived.Test.YtgkdggidgaifhaaPc
namespace Go.Proofs.Ytgkdggidgaifhaa
open Go.RowKit
set_option linter.unusedVariables false
set_option linter.unusedSimpArgs false

section
variable {σ : Type} {K : SnkF σ} {P : PSnk K}
theorem Outc.same {n : Nat} {st st1 : σ × Int} {r : Int × Int} {G : Rdr → Int × Int → Prop} (h : Aft P 0 st st1) (hg : G (P.rd st1.1) r) : Outc P n st (st1, r, 0) G := .inl ⟨0, by omega, h, rfl, hg⟩
set_option maxHeartbeats 1000000 in
theorem set_is (hK : K.Good) {key : Nat} (hk : key < 16777216) {v : Bytes} (hv : v.length ≤ 256) {rd : Rdr} {l q : Nat} {r : Int × Int} {m : Mp} (h : Tells rd l q r m) :
    ∀ (n : Nat) (s : σ) (p : Int), 7 ≤ n + l → l ≤ 5 → frontN key l = q → P.In s → P.rd s = rd → K.Rdy s (7 - l) →
    Outc P (6 - l) (s, p) (setF K n (s, p) r l q key v) fun rd' r' => Tells rd' l q r' (upd m key (some v)) ∧ (m key = some v → r' = r) := by
  induction h with
  | @lone l q r b x m h0 hr hp hu hl hm =>
    intro n s p hn hl5 hq hs he hrd
    obtain ⟨n, rfl⟩ : ∃ k, n = k + 1 := ⟨n - 1, by omega⟩
    have hg := P.get s r b hs (by rw [he]; exact hr)
    have ha : Aft P 0 (s, p) ((K.get s r).1, p) := Aft.got hs (by rw [he]; exact hr)
    have hok := parseB_ok hp
    have hbr : Bd r := hK.getB s r (hK.mono _ _ _ hrd (by omega)) (by rw [hg.1])
    have hr1 := hK.getR s r _ hrd
    unfold setF
    rw [if_neg h0]
    simp only
    rw [tget_is hs (by rw [he]; exact hr) hp hu]
    simp only
    generalize hs1 : (K.get s r).1 = s1 at *
    by_cases hkk : x.key = key
    · rw [if_pos ⟨hl, hkk⟩]
      by_cases hvv : x.val = v
      · rw [if_pos hvv]
        refine Outc.same ha ⟨?_, fun _ => rfl⟩
        rw [hg.2.2.1, he]
        refine .lone h0 hr hp hu hl (fun k => ?_)
        simp only [upd, hm, hkk, hvv]
        by_cases e : k = key <;> simp [e]
      · rw [if_neg hvv]
        have hok2 : ({ x with val := v } : RN).Ok := hok.setVal hv
        refine (Outc.after ha ((Outc.put (p := p) hg.2.1 (hK.mono _ _ _ hr1 (by omega)) hok2).mono (n' := 1) (Nat.le_refl _) (G' := fun rd' r' => Tells rd' l q r' (upd m key (some v)) ∧ (m key = some v → r' = r)) fun rd' r' hsub ⟨h1, h2⟩ => ⟨?_, fun e => ?_⟩)).mono (by omega) (fun _ _ _ h => h)
        · refine Tells.putLone hok2 hl h2 h1 ?_ (fun k => ?_)
          · obtain ⟨g1, g2⟩ := under_iff.1 hu
            exact under_iff.2 ⟨g1, g2⟩
          · simp only [upd, hm, hkk]
            by_cases e : k = key <;> simp [e]
        · rw [hm, if_pos hkk.symm] at e
          exact absurd (Option.some.inj e) hvv
    · rw [if_neg (fun h => hkk h.2), if_pos (.inl hl)]
      have hne := pack_ne hok hk (fun h => hkk h.2) (.inl hl)
      refine (Outc.after ha ((pair_is (m := m) (p := p) (l := l) (q := q) hg.2.1 (hK.mono _ _ _ hr1 (by omega)) hK hbr hk hv hl5 hq hok hu hne (.inl hl) (fun l' q' hu' => ?_) (fun _ => hm)).mono (Nat.le_refl _) (G' := fun rd' r' => Tells rd' l q r' (upd m key (some v)) ∧ (m key = some v → r' = r)) fun rd' r' hsub hT => ⟨hT, fun e => ?_⟩)).mono (by omega) (fun _ _ _ h => h)
      · rw [hg.2.2.1, he]
        exact .lone h0 hr hp hu' hl hm
      · rw [hm, if_neg (fun e => hkk e.symm)] at e
        cases e
  | @leaf l q r b x m h0 hr hp hu hl hne hm =>
    intro n s p hn hl5 hq hs he hrd
    obtain ⟨n, rfl⟩ : ∃ k, n = k + 1 := ⟨n - 1, by omega⟩
    have hg := P.get s r b hs (by rw [he]; exact hr)
    have ha : Aft P 0 (s, p) ((K.get s r).1, p) := Aft.got hs (by rw [he]; exact hr)
    have hok := parseB_ok hp
    have hbr : Bd r := hK.getB s r (hK.mono _ _ _ hrd (by omega)) (by rw [hg.1])
    have hr1 := hK.getR s r _ hrd
    unfold setF
    rw [if_neg h0]
    simp only
    rw [tget_is hs (by rw [he]; exact hr) hp hu]
    simp only
    generalize hs1 : (K.get s r).1 = s1 at *
    rw [if_neg (fun h => by omega)]
    by_cases hf : frontN key x.level = x.prefix_
    · rw [if_neg (by rintro (h | h); omega; exact h hf), if_pos hl]
      rw [hl] at hf
      by_cases hhv : x.has (digN key 5) = true ∧ x.vals (digN key 5) = v
      · rw [if_pos hhv]
        refine Outc.same ha ⟨?_, fun _ => rfl⟩
        rw [hg.2.2.1, he]
        refine .leaf h0 hr hp hu hl hne (fun k => ?_)
        by_cases e : k = key
        · rw [e, upd_same, if_pos ⟨hf, hhv.1⟩, hhv.2]
        · rw [upd_other _ _ _ e, hm]
      · rw [if_neg hhv]
        have hok2 : ({ x with has := upd x.has (digN key 5) true, vals := upd x.vals (digN key 5) v } : RN).Ok := hok.setHV _ hv
        refine (Outc.after ha ((Outc.put (p := p) hg.2.1 (hK.mono _ _ _ hr1 (by omega)) hok2).mono (n' := 1) (Nat.le_refl _) (G' := fun rd' r' => Tells rd' l q r' (upd m key (some v)) ∧ (m key = some v → r' = r)) fun rd' r' hsub ⟨h1, h2⟩ => ⟨?_, fun e => ?_⟩)).mono (by omega) (fun _ _ _ h => h)
        · refine Tells.putLeaf hok2 hl ⟨digN key 5, digN_lt _ _, upd_same _ _ _⟩ h2 h1 ?_ (fun k => ?_)
          · obtain ⟨g1, g2⟩ := under_iff.1 hu
            exact under_iff.2 ⟨g1, g2⟩
          · show upd m key (some v) k = if frontN k 5 = x.prefix_ ∧ upd x.has (digN key 5) true (digN k 5) = true then some (upd x.vals (digN key 5) v (digN k 5)) else none
            by_cases e : k = key
            · rw [e, upd_same, upd_same, upd_same, if_pos ⟨hf, rfl⟩]
            · rw [upd_other _ _ _ e, hm]
              by_cases e2 : frontN k 5 = x.prefix_
              · have e3 : digN k 5 ≠ digN key 5 := fun e3 => by
                  have g1 := front_succ k (l := 5) (by omega)
                  have g2 := front_succ key (l := 5) (by omega)
                  rw [front6] at g1 g2
                  omega
                rw [upd_other _ _ _ e3, upd_other _ _ _ e3]
              · rw [if_neg (fun h => e2 h.1), if_neg (fun h => e2 h.1)]
        · rw [hm] at e
          split at e
          · rename_i e1
            exact absurd ⟨e1.2, Option.some.inj e⟩ hhv
          · cases e
    · rw [if_pos (.inr hf)]
      have hne := pack_ne hok hk (fun h => by omega) (.inr hf)
      have hmk : m key = none := by rw [hm, if_neg]; intro e; exact hf (by rw [hl]; exact e.1)
      refine (Outc.after ha ((pair_is (m := m) (p := p) (l := l) (q := q) hg.2.1 (hK.mono _ _ _ hr1 (by omega)) hK hbr hk hv hl5 hq hok hu hne (.inr hf) (fun l' q' hu' => ?_) (fun h => by omega)).mono (Nat.le_refl _) (G' := fun rd' r' => Tells rd' l q r' (upd m key (some v)) ∧ (m key = some v → r' = r)) fun rd' r' hsub hT => ⟨hT, fun e => by rw [hmk] at e; cases e⟩)).mono (by omega) (fun _ _ _ h => h)
      rw [hg.2.2.1, he]
      exact .leaf h0 hr hp hu' hl ‹_› hm
  | @fork l q r b x m h0 hr hp hu hl hne ms hkk hm ih =>
    intro n s p hn hl5 hq hs he hrd
    obtain ⟨n, rfl⟩ : ∃ k, n = k + 1 := ⟨n - 1, by omega⟩
    have hg := P.get s r b hs (by rw [he]; exact hr)
    have ha : Aft P 0 (s, p) ((K.get s r).1, p) := Aft.got hs (by rw [he]; exact hr)
    have hok := parseB_ok hp
    have hbr : Bd r := hK.getB s r (hK.mono _ _ _ hrd (by omega)) (by rw [hg.1])
    have hr1 := hK.getR s r _ hrd
    have hlu := under_iff.1 hu
    unfold setF
    rw [if_neg h0]
    simp only
    rw [tget_is hs (by rw [he]; exact hr) hp hu]
    simp only
    generalize hs1 : (K.get s r).1 = s1 at *
    rw [if_neg (fun h => by omega)]
    by_cases hf : frontN key x.level = x.prefix_
    · rw [if_neg (by rintro (h | h); omega; exact h hf), if_neg (by omega)]
      have hmi : m key = if x.has (digN key x.level) = true then ms (digN key x.level) key else none := by
        rw [hm]
        by_cases e : x.has (digN key x.level) = true
        · rw [if_pos ⟨hf, e⟩, if_pos e]
        · rw [if_neg (fun h => e h.2), if_neg e]
      obtain ⟨mi, hmi0⟩ : ∃ mi : Mp, mi = if x.has (digN key x.level) = true then ms (digN key x.level) else fun _ => none := ⟨_, rfl⟩
      have hmk : m key = mi key := by rw [hmi, hmi0]; split <;> rfl
      have hch : Outc P (5 - x.level) (s1, p) (setF K n (s1, p) (if x.has (digN key x.level) = true then x.kids (digN key x.level) else (0, 0)) (x.level + 1) (frontN key (x.level + 1)) key v)
          fun rd' r' => Tells rd' (x.level + 1) (frontN key (x.level + 1)) r' (upd mi key (some v)) ∧ (mi key = some v → x.has (digN key x.level) = true ∧ r' = x.kids (digN key x.level)) := by
        by_cases e : x.has (digN key x.level) = true
        · rw [if_pos e] at hmi0 ⊢
          have h1 := ih _ (digN_lt _ _) e n s1 p (by omega) (by omega) (by rw [front_succ _ (by omega), hf]) hg.2.1 (hg.2.2.1.trans he) (hK.mono _ _ _ hr1 (by omega))
          rw [front_succ _ (by omega), hf, hmi0]
          exact h1.mono (by omega) fun rd' r' _ h => ⟨h.1, fun e2 => ⟨e, h.2 e2⟩⟩
        · rw [if_neg e] at hmi0 ⊢
          obtain ⟨n, rfl⟩ : ∃ k, n = k + 1 := ⟨n - 1, by omega⟩
          unfold setF
          rw [if_pos rfl]
          rw [hmi0]
          exact (set_new (m := fun _ => none) hg.2.1 (hK.mono _ _ _ hr1 (by omega)) hk hv (by omega) rfl).mono (by omega) fun rd' r' _ h => ⟨h (fun _ => rfl), fun e2 => by cases e2⟩
      have hgd := setF_good hK hk hv n (x.level + 1) s1 p (if x.has (digN key x.level) = true then x.kids (digN key x.level) else (0, 0)) (frontN key (x.level + 1)) 1 (by omega) (by omega) (hK.mono _ _ _ hr1 (by omega))
      generalize setF K n (s1, p) (if x.has (digN key x.level) = true then x.kids (digN key x.level) else (0, 0)) (x.level + 1) (frontN key (x.level + 1)) key v = y at hch hgd
      obtain ⟨⟨s2, p2⟩, made, er⟩ := y
      simp only at hgd ⊢
      rcases hch with ⟨j, hj, hb, hz, hT, hsm⟩ | ⟨j, hj, hb, hz, hroom⟩
      · simp only at hb hz hT hsm
        subst hz
        have hsub : SubR rd (P.rd s2) := by have := (ha.trans hb).sub; rw [← he]; exact this
        by_cases hsame : x.has (digN key x.level) = true ∧ made = x.kids (digN key x.level)
        · rw [if_pos (.inr hsame)]
          refine .inl ⟨0 + j, by omega, ha.trans hb, rfl, ?_, fun _ => rfl⟩
          rw [if_pos hsame.1] at hmi0
          have hold := (hkk _ (digN_lt key x.level) hsame.1).mono hsub
          rw [hsame.2] at hT
          have hfn := hold.fun_ hT
          refine .fork h0 (hsub _ _ hr) hp hu hl hne ms (fun i hi hh => (hkk i hi hh).mono hsub) (fun k => ?_)
          by_cases e : k = key
          · have h2 := hfn k
            rw [e] at h2
            rw [e, upd_same, if_pos ⟨hf, hsame.1⟩, h2, upd_same]
          · rw [upd_other _ _ _ e, hm]
        · rw [if_neg (by rintro (h | h); exact h rfl; exact hsame h)]
          have hbm : Bd made := hgd.2 rfl
          have hok2 : ({ x with has := upd x.has (digN key x.level) true, kids := upd x.kids (digN key x.level) made } : RN).Ok := hok.setHKd _ hbm
          refine (Outc.after (ha.trans hb) ((Outc.put (p := p2) hb.inn hgd.1 hok2).mono (n' := 1) (Nat.le_refl _) (G' := fun rd' r' => Tells rd' l q r' (upd m key (some v)) ∧ (m key = some v → r' = r)) fun rd' r' hsub2 ⟨h1, h2⟩ => ⟨?_, fun e => ?_⟩)).mono (by omega) (fun _ _ _ h => h)
          · refine Tells.putFork hok2 hl ⟨digN key x.level, digN_lt _ _, upd_same _ _ _⟩ h2 h1 ?_ (upd ms (digN key x.level) (upd mi key (some v))) (fun i hi hh => ?_) (fun k => ?_)
            · obtain ⟨g1, g2⟩ := under_iff.1 hu
              exact under_iff.2 ⟨g1, g2⟩
            · show Tells rd' (x.level + 1) (x.prefix_ * 16 + i) (upd x.kids (digN key x.level) made i) (upd ms (digN key x.level) (upd mi key (some v)) i)
              by_cases e : i = digN key x.level
              · rw [e, upd_same, upd_same, ← hf, ← front_succ _ (by omega)]
                exact hT.mono hsub2
              · have hh : upd x.has (digN key x.level) true i = true := hh
                rw [upd_other _ _ _ e] at hh
                rw [upd_other _ _ _ e, upd_other _ _ _ e]
                exact ((hkk i hi hh).mono hsub).mono hsub2
            · show upd m key (some v) k = if frontN k x.level = x.prefix_ ∧ upd x.has (digN key x.level) true (digN k x.level) = true then upd ms (digN key x.level) (upd mi key (some v)) (digN k x.level) k else none
              by_cases e : k = key
              · rw [e, upd_same, upd_same, upd_same, upd_same, if_pos ⟨hf, rfl⟩]
              · rw [upd_other _ _ _ e, hm]
                by_cases e2 : digN k x.level = digN key x.level
                · rw [e2, upd_same, upd_same, upd_other _ _ _ e, hmi0]
                  by_cases e3 : x.has (digN key x.level) = true
                  · rw [if_pos e3]; simp only [e3]
                  · rw [if_neg e3, if_neg (fun h => e3 h.2)]; simp
                · rw [upd_other _ _ _ e2, upd_other _ _ _ e2]
          · rw [hmk] at e
            exact absurd (hsm e) hsame
      · simp only at hb hz hroom
        have hne2 : er ≠ 0 := by rw [hz]; exact P.ez0
        rw [if_pos (.inl hne2)]
        exact .inr ⟨0 + j, by omega, ha.trans hb, hz, hroom⟩
    · rw [if_pos (.inr hf)]
      have hne := pack_ne hok hk (fun h => by omega) (.inr hf)
      have hmk : m key = none := by rw [hm, if_neg]; intro e; exact hf e.1
      refine (Outc.after ha ((pair_is (m := m) (p := p) (l := l) (q := q) hg.2.1 (hK.mono _ _ _ hr1 (by omega)) hK hbr hk hv hl5 hq hok hu hne (.inr hf) (fun l' q' hu' => ?_) (fun h => by omega)).mono (Nat.le_refl _) (G' := fun rd' r' => Tells rd' l q r' (upd m key (some v)) ∧ (m key = some v → r' = r)) fun rd' r' hsub hT => ⟨hT, fun e => by rw [hmk] at e; cases e⟩)).mono (by omega) (fun _ _ _ h => h)
      rw [hg.2.2.1, he]
      exact .fork h0 hr hp hu' hl ‹_› ms hkk hm
/-! ### Delete -/
theorem countN_zero {f : Nat → Bool} : ∀ {n : Nat}, countN f n = 0 → ∀ i, i < n → f i = false
  | 0, _, i, hi => by omega
  | n + 1, h, i, hi => by
    unfold countN at h
    by_cases hf : f n = true
    · rw [if_pos hf] at h; omega
    · rw [if_neg hf] at h
      by_cases e : i = n
      · rw [e]; simpa using hf
      · exact countN_zero (by omega) i (by omega)
theorem countN_one {f : Nat → Bool} : ∀ {n : Nat}, countN f n = 1 → ∀ i j, i < n → j < n → f i = true → f j = true → i = j
  | 0, _, i, j, hi, _, _, _ => by omega
  | n + 1, h, i, j, hi, hj, fi, fj => by
    unfold countN at h
    by_cases hf : f n = true
    · rw [if_pos hf] at h
      have h0 := countN_zero (f := f) (n := n) (by omega)
      have e1 : i = n := by
        rcases Nat.lt_or_ge i n with g | g
        · rw [h0 i g] at fi; cases fi
        · omega
      have e2 : j = n := by
        rcases Nat.lt_or_ge j n with g | g
        · rw [h0 j g] at fj; cases fj
        · omega
      omega
    · rw [if_neg hf] at h
      have e1 : i ≠ n := fun e => hf (e ▸ fi)
      have e2 : j ≠ n := fun e => hf (e ▸ fj)
      exact countN_one (by omega) i j (by omega) (by omega) fi fj
set_option maxHeartbeats 1000000 in
theorem cut_is (hK : K.Good) {key : Nat} (hk : key < 16777216) {rd : Rdr} {l q : Nat} {r : Int × Int} {m : Mp} (h : Tells rd l q r m) :
    ∀ (n : Nat) (s : σ) (p : Int), 7 ≤ n + l → l ≤ 5 → P.In s → P.rd s = rd → K.Rdy s (7 - l) →
    Outc P 7 (s, p) (cutF K n (s, p) r l q key) fun rd' r' => TellsK rd' l q r' (upd m key none) ∧ (m key = none → r' = r) := by
  suffices hh : ∀ (n : Nat) (s : σ) (p : Int), 7 ≤ n + l → l ≤ 5 → P.In s → P.rd s = rd → K.Rdy s (7 - l) →
    Outc P (7 - l) (s, p) (cutF K n (s, p) r l q key) fun rd' r' => TellsK rd' l q r' (upd m key none) ∧ (m key = none → r' = r) from
    fun n s p h1 h2 h3 h4 h5 => (hh n s p h1 h2 h3 h4 h5).mono (by omega) fun _ _ _ h => h
  induction h with
  | @lone l q r b x m h0 hr hp hu hl hm =>
    intro n s p hn hl5 hs he hrd
    obtain ⟨n, rfl⟩ : ∃ k, n = k + 1 := ⟨n - 1, by omega⟩
    have hg := P.get s r b hs (by rw [he]; exact hr)
    have ha : Aft P 0 (s, p) ((K.get s r).1, p) := Aft.got hs (by rw [he]; exact hr)
    unfold cutF
    rw [if_neg h0]
    simp only
    rw [tget_is hs (by rw [he]; exact hr) hp hu]
    simp only
    generalize hs1 : (K.get s r).1 = s1 at *
    rw [if_pos hl]
    by_cases hkk : x.key = key
    · rw [if_pos hkk]
      refine Outc.same ha ⟨.inl ⟨rfl, fun k => ?_⟩, fun e => ?_⟩
      · simp only [upd, hm, hkk]
        by_cases e : k = key <;> simp [e]
      · rw [hm, if_pos hkk.symm] at e; cases e
    · rw [if_neg hkk]
      refine Outc.same ha ⟨.inr ?_, fun _ => rfl⟩
      rw [hg.2.2.1, he]
      refine .lone h0 hr hp hu hl (fun k => ?_)
      by_cases e : k = key
      · rw [e, upd_same, if_neg (fun h => hkk h.symm)]
      · rw [upd_other _ _ _ e, hm]
  | @leaf l q r b x m h0 hr hp hu hl hne hm =>
    intro n s p hn hl5 hs he hrd
    obtain ⟨n, rfl⟩ : ∃ k, n = k + 1 := ⟨n - 1, by omega⟩
    have hg := P.get s r b hs (by rw [he]; exact hr)
    have ha : Aft P 0 (s, p) ((K.get s r).1, p) := Aft.got hs (by rw [he]; exact hr)
    have hok := parseB_ok hp
    have hr1 := hK.getR s r _ hrd
    unfold cutF
    rw [if_neg h0]
    simp only
    rw [tget_is hs (by rw [he]; exact hr) hp hu]
    simp only
    generalize hs1 : (K.get s r).1 = s1 at *
    have e5a : frontN key x.level = frontN key 5 := by rw [hl]
    have e5b : digN key x.level = digN key 5 := by rw [hl]
    rw [if_neg (fun h => by omega), e5a, e5b]
    by_cases hf : frontN key 5 = x.prefix_ ∧ x.has (digN key 5) = true
    · rw [if_neg (by simp [hf.1, hf.2]), if_pos hl]
      have hmm : ∀ k, upd m key none k = if frontN k 5 = x.prefix_ ∧ upd x.has (digN key 5) false (digN k 5) = true then some (upd x.vals (digN key 5) [] (digN k 5)) else none := fun k => by
        by_cases e : k = key
        · rw [e, upd_same, upd_same, if_neg (by simp)]
        · rw [upd_other _ _ _ e, hm]
          by_cases e2 : frontN k 5 = x.prefix_
          · have e3 : digN k 5 ≠ digN key 5 := fun e3 => by
              have g1 := front_succ k (l := 5) (by omega)
              have g2 := front_succ key (l := 5) (by omega)
              rw [front6] at g1 g2
              omega
            rw [upd_other _ _ _ e3, upd_other _ _ _ e3]
          · rw [if_neg (fun h => e2 h.1), if_neg (fun h => e2 h.1)]
      have hmk : m key ≠ none := by rw [hm, if_pos hf]; simp
      by_cases hc : countN (upd x.has (digN key 5) false) 16 = 0
      · rw [if_pos hc]
        refine Outc.same ha ⟨.inl ⟨rfl, fun k => ?_⟩, fun e => absurd e hmk⟩
        rw [hmm, if_neg]
        rintro ⟨_, e⟩
        rw [countN_zero hc _ (digN_lt _ _)] at e
        cases e
      · rw [if_neg hc]
        have hok2 : ({ x with has := upd x.has (digN key 5) false, vals := upd x.vals (digN key 5) [] } : RN).Ok := hok.setHV _ (by simp)
        obtain ⟨j, hj, hjj⟩ := countN_ex (f := upd x.has (digN key 5) false) (n := 16) (by omega)
        have hle : 0 + 1 ≤ 7 - l := by omega
        refine (Outc.after ha ((Outc.put (p := p) hg.2.1 (hK.mono _ _ _ hr1 (by omega)) hok2).mono (n' := 1) (Nat.le_refl _) (G' := fun rd' r' => TellsK rd' l q r' (upd m key none) ∧ (m key = none → r' = r)) fun rd' r' hsub ⟨h1, h2⟩ => ⟨.inr ?_, fun e => absurd e hmk⟩)).mono hle (fun _ _ _ h => h)
        refine Tells.putLeaf hok2 hl ⟨j, hj, hjj⟩ h2 h1 ?_ hmm
        obtain ⟨g1, g2⟩ := under_iff.1 hu
        exact under_iff.2 ⟨g1, g2⟩
    · rw [if_pos (by
        by_cases h1 : frontN key 5 = x.prefix_
        · exact .inr (by simpa [h1] using hf)
        · exact .inl h1)]
      refine Outc.same ha ⟨.inr ?_, fun _ => rfl⟩
      rw [hg.2.2.1, he]
      refine .leaf h0 hr hp hu hl hne (fun k => ?_)
      by_cases e : k = key
      · rw [e, upd_same, if_neg hf]
      · rw [upd_other _ _ _ e, hm]
  | @fork l q r b x m h0 hr hp hu hl hne ms hkk hm ih =>
    intro n s p hn hl5 hs he hrd
    obtain ⟨n, rfl⟩ : ∃ k, n = k + 1 := ⟨n - 1, by omega⟩
    have hg := P.get s r b hs (by rw [he]; exact hr)
    have ha : Aft P 0 (s, p) ((K.get s r).1, p) := Aft.got hs (by rw [he]; exact hr)
    have hok := parseB_ok hp
    have hr1 := hK.getR s r _ hrd
    have hlu := under_iff.1 hu
    unfold cutF
    rw [if_neg h0]
    simp only
    rw [tget_is hs (by rw [he]; exact hr) hp hu]
    simp only
    generalize hs1 : (K.get s r).1 = s1 at *
    rw [if_neg (fun h => by omega)]
    by_cases hf : frontN key x.level = x.prefix_ ∧ x.has (digN key x.level) = true
    · rw [if_neg (by simp [hf.1, hf.2]), if_neg (by omega)]
      have hmk : m key = ms (digN key x.level) key := by rw [hm, if_pos hf]
      have hold0 := hkk _ (digN_lt key x.level) hf.2
      have hch := ih _ (digN_lt key x.level) hf.2 n s1 p (by omega) (by omega) hg.2.1 (hg.2.2.1.trans he) (hK.mono _ _ _ hr1 (by omega))
      rw [← hf.1, ← front_succ _ (by omega)] at hch
      have hgd := cutF_good hK hk n (x.level + 1) s1 p (x.kids (digN key x.level)) (frontN key (x.level + 1)) 1 (by omega) (by omega) (hK.mono _ _ _ hr1 (by omega))
      generalize cutF K n (s1, p) (x.kids (digN key x.level)) (x.level + 1) (frontN key (x.level + 1)) key = y at hch hgd
      obtain ⟨⟨s2, p2⟩, kid, er⟩ := y
      simp only at hgd ⊢
      have hd := digN_lt key x.level
      rcases hch with ⟨j, hj, hb, hz, hT, hsm⟩ | ⟨j, hj, hb, hz, hroom⟩
      · simp only at hb hz hT hsm
        subst hz
        have hsub : SubR rd (P.rd s2) := by have := (ha.trans hb).sub; rw [← he]; exact this
        have hold := hold0.mono hsub
        by_cases hsame : kid = x.kids (digN key x.level)
        · rw [if_pos (.inr hsame)]
          refine .inl ⟨0 + j, by omega, ha.trans hb, rfl, .inr ?_, fun _ => rfl⟩
          rw [hsame] at hT
          have hfn := TellsK.fun_ (.inr hold) hT
          refine .fork h0 (hsub _ _ hr) hp hu hl hne ms (fun i hi hh => (hkk i hi hh).mono hsub) (fun k => ?_)
          by_cases e : k = key
          · have h2 := hfn k
            rw [e] at h2
            rw [e, upd_same, if_pos hf, h2, upd_same]
          · rw [upd_other _ _ _ e, hm]
        · rw [if_neg (by rintro (h | h); exact h rfl; exact hsame h)]
          have hmne : m key ≠ none := fun e => hsame (hsm (hmk ▸ e))
          obtain ⟨has', hhas'⟩ : ∃ f, f = upd x.has (digN key x.level) (decide (kid ≠ (0, 0))) := ⟨_, rfl⟩
          obtain ⟨ms', hms'⟩ : ∃ f, f = upd ms (digN key x.level) (upd (ms (digN key x.level)) key none) := ⟨_, rfl⟩
          have hmm : ∀ k, upd m key none k = if frontN k x.level = x.prefix_ ∧ has' (digN k x.level) = true then ms' (digN k x.level) k else none := fun k => by
            rw [hhas', hms']
            by_cases e2 : digN k x.level = digN key x.level
            · rw [e2, upd_same, upd_same]
              by_cases e : k = key
              · rw [e, upd_same, upd_same]; split <;> rfl
              · rw [upd_other _ _ _ e, upd_other _ _ _ e, hm, e2]
                by_cases e3 : frontN k x.level = x.prefix_
                · rw [if_pos ⟨e3, hf.2⟩]
                  by_cases e4 : kid = (0, 0)
                  · rw [if_neg (by simp [e4])]
                    rcases hT with hT | hT
                    · have := hT.2 k
                      rw [upd_other _ _ _ e] at this
                      exact this
                    · exact absurd e4 hT.ne0
                  · rw [if_pos ⟨e3, by simp [e4]⟩]
                · rw [if_neg (fun h => e3 h.1), if_neg (fun h => e3 h.1)]
            · have e : k ≠ key := fun e => e2 (by rw [e])
              rw [upd_other _ _ _ e, upd_other _ _ _ e2, upd_other _ _ _ e2, hm]
          have hkk' : ∀ rd', SubR (P.rd s2) rd' → ∀ i, i < 16 → has' i = true → Tells rd' (x.level + 1) (x.prefix_ * 16 + i) (upd x.kids (digN key x.level) kid i) (ms' i) := fun rd' hs' i hi hh => by
            rw [hhas'] at hh
            rw [hms']
            by_cases e : i = digN key x.level
            · rw [e, upd_same] at hh
              have hk0 : kid ≠ (0, 0) := by simpa using hh
              rw [e, upd_same, upd_same, ← hf.1, ← front_succ _ (by omega)]
              rcases hT with hT | hT
              · exact absurd hT.1 hk0
              · exact hT.mono hs'
            · rw [upd_other _ _ _ e] at hh
              rw [upd_other _ _ _ e, upd_other _ _ _ e]
              exact ((hkk i hi hh).mono hsub).mono hs'
          rw [← hhas']
          by_cases hc0 : countN has' 16 = 0
          · rw [if_pos hc0]
            refine .inl ⟨0 + j, by omega, ha.trans hb, rfl, .inl ⟨rfl, fun k => ?_⟩, fun e => absurd e hmne⟩
            rw [hmm, if_neg]
            rintro ⟨_, e⟩
            rw [countN_zero hc0 _ (digN_lt _ _)] at e
            cases e
          · rw [if_neg hc0]
            obtain ⟨j1, hj1, hjj⟩ := countN_ex (f := has') (n := 16) (by omega)
            by_cases hc1 : countN has' 16 = 1
            · rw [if_pos hc1]
              obtain ⟨h3, h4⟩ := firstN_spec has' 16 0 ⟨j1, by omega, by omega, hjj⟩
              generalize firstN has' 16 0 = i0 at h3 h4 ⊢
              refine .inl ⟨0 + j, by omega, ha.trans hb, rfl, .inr ?_, fun e => absurd e hmne⟩
              have hti := hkk' _ (SubR.refl _) i0 (by omega) h4
              refine hti.to (fun z hz hzu => ?_) (fun k => ?_)
              · obtain ⟨g1, g2⟩ := under_iff.1 hzu
                have hzl := hz.lv
                obtain ⟨g3, g4⟩ := front_digit (by omega) (by omega) g2
                refine under_iff.2 ⟨by omega, ?_⟩
                have := (front_under hok (by omega) hu (k := z.some) g3).1
                exact this
              · rw [hmm]
                by_cases e : frontN k x.level = x.prefix_ ∧ has' (digN k x.level) = true
                · rw [if_pos e, countN_one hc1 (digN k x.level) i0 (digN_lt _ _) (by omega) e.2 h4]
                · rw [if_neg e]
                  refine (hti.non fun e2 => ?_).symm
                  obtain ⟨g3, g4⟩ := front_digit (by omega) (by omega) e2
                  exact e ⟨g3, by rw [g4]; exact h4⟩
            · rw [if_neg hc1]
              have hbk : Bd kid := hgd.2 rfl
              have hok2 : ({ x with has := has', kids := upd x.kids (digN key x.level) kid } : RN).Ok := hok.setHKd _ hbk
              refine (Outc.after (ha.trans hb) ((Outc.put (p := p2) hb.inn hgd.1 hok2).mono (n' := 1) (Nat.le_refl _) (G' := fun rd' r' => TellsK rd' l q r' (upd m key none) ∧ (m key = none → r' = r)) fun rd' r' hsub2 ⟨h1, h2⟩ => ⟨.inr ?_, fun e => absurd e hmne⟩)).mono (by omega) (fun _ _ _ h => h)
              refine Tells.putFork hok2 hl ⟨j1, hj1, hjj⟩ h2 h1 ?_ ms' (fun i hi hh => hkk' rd' hsub2 i hi hh) hmm
              obtain ⟨g1, g2⟩ := under_iff.1 hu
              exact under_iff.2 ⟨g1, g2⟩
      · simp only at hb hz hroom
        have hne2 : er ≠ 0 := by rw [hz]; exact P.ez0
        rw [if_pos (.inl hne2)]
        exact .inr ⟨0 + j, by omega, ha.trans hb, hz, hroom⟩
    · rw [if_pos (by
        by_cases h1 : frontN key x.level = x.prefix_
        · exact .inr (by simpa [h1] using hf)
        · exact .inl h1)]
      refine Outc.same ha ⟨.inr ?_, fun _ => rfl⟩
      rw [hg.2.2.1, he]
      refine .fork h0 hr hp hu hl hne ms hkk (fun k => ?_)
      by_cases e : k = key
      · rw [e, upd_same, if_neg hf]
      · rw [upd_other _ _ _ e, hm]
end
end Go.Proofs.Ytgkdggidgaifhaa
