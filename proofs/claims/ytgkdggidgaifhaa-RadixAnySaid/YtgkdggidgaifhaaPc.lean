/- radix: a sink that keeps what it took; Get, Set and Delete answer as a map does. -/
import Derived.Test.YtgkdggidgaifhaaPb
namespace Go.Proofs.Ytgkdggidgaifhaa
open Go.RowKit
set_option linter.unusedVariables false
set_option linter.unusedSimpArgs false

def incN (p : Int) : Nat → Int
  | 0 => p
  | n + 1 => inc64 (incN p n)
theorem incN_add (p : Int) (a b : Nat) : incN (incN p a) b = incN p (a + b) := by
  induction b with
  | zero => rfl
  | succ b ih => rw [incN, ih]; rfl
/-- A sink that keeps what it took. -/
structure PSnk {σ : Type} (K : SnkF σ) where
  In : σ → Prop
  rd : σ → Rdr
  cnt : σ → Nat
  room : σ → Int
  ez : Int
  ez0 : ez ≠ 0
  get : ∀ s a b, In s → rd s a = some b → (K.get s a).2 = (b, 0) ∧ In (K.get s a).1 ∧ rd (K.get s a).1 = rd s ∧ cnt (K.get s a).1 = cnt s ∧ room (K.get s a).1 = room s
  put : ∀ s b, In s → K.Rdy s 1 → b.length ≤ 5000 → room s ≠ 0 → (K.put s b).2.2 = 0 ∧ In (K.put s b).1 ∧ rd (K.put s b).1 (K.put s b).2.1 = some b ∧ (K.put s b).2.1 ≠ (0, 0) ∧ SubR (rd s) (rd (K.put s b).1) ∧ cnt (K.put s b).1 = cnt s + 1 ∧ room (K.put s b).1 = if 0 < room s then room s - 1 else room s
  full : ∀ s b, In s → room s = 0 → (K.put s b).2.2 = ez ∧ (K.put s b).1 = s
/-- n blobs later. -/
structure Aft {σ : Type} {K : SnkF σ} (P : PSnk K) (n : Nat) (st st' : σ × Int) : Prop where
  inn : P.In st'.1
  sub : SubR (P.rd st.1) (P.rd st'.1)
  cnt : P.cnt st'.1 = P.cnt st.1 + n
  pu : st'.2 = incN st.2 n
  room : P.room st'.1 = if P.room st.1 < 0 then P.room st.1 else P.room st.1 - n
  le : 0 ≤ P.room st.1 → (n : Int) ≤ P.room st.1
section
variable {σ : Type} {K : SnkF σ} {P : PSnk K}
theorem Aft.refl {st : σ × Int} (h : P.In st.1) : Aft P 0 st st := ⟨h, SubR.refl _, rfl, rfl, by split <;> simp, by simp⟩
theorem Aft.trans {a b : Nat} {st st1 st2 : σ × Int} (h : Aft P a st st1) (k : Aft P b st1 st2) : Aft P (a + b) st st2 := by
  have h1 := h.room
  have h2 := k.room
  have h3 := h.le
  have h4 := k.le
  refine ⟨k.inn, h.sub.trans k.sub, by rw [k.cnt, h.cnt, Nat.add_assoc], by rw [k.pu, h.pu, incN_add], ?_, ?_⟩
  · by_cases g : P.room st.1 < 0
    · rw [if_pos g] at h1 ⊢
      rw [h2, h1, if_pos g]
    · rw [if_neg g] at h1 ⊢
      have := h3 (by omega)
      rw [h2, h1, if_neg (by omega)]
      omega
  · intro g
    have := h3 g
    rw [if_neg (by omega)] at h1
    have := h4 (by omega)
    omega
theorem Aft.got {s : σ} {p : Int} {a : Int × Int} {b : Bytes} (h : P.In s) (hr : P.rd s a = some b) : Aft P 0 (s, p) ((K.get s a).1, p) := by
  obtain ⟨h1, h2, h3, h4, h5⟩ := P.get s a b h hr
  exact ⟨h2, by show SubR (P.rd s) (P.rd (K.get s a).1); rw [h3]; exact SubR.refl _, h4, rfl, by show P.room (K.get s a).1 = _; rw [h5]; split <;> simp, by simp⟩
/-- An answer behind at most n blobs; G holds of what was made, unless the sink was full. -/
def Outc (P : PSnk K) (n : Nat) (st : σ × Int) (y : (σ × Int) × (Int × Int) × Int) (G : Rdr → Int × Int → Prop) : Prop :=
  (∃ j, j ≤ n ∧ Aft P j st y.1 ∧ y.2.2 = 0 ∧ G (P.rd y.1.1) y.2.1) ∨ (∃ j, j < n ∧ Aft P j st y.1 ∧ y.2.2 = P.ez ∧ P.room y.1.1 = 0)
theorem Outc.mono {n n' : Nat} {st : σ × Int} {y : (σ × Int) × (Int × Int) × Int} {G G' : Rdr → Int × Int → Prop} (h : Outc P n st y G) (hn : n ≤ n') (hg : ∀ rd r, SubR (P.rd st.1) rd → G rd r → G' rd r) : Outc P n' st y G' := by
  rcases h with ⟨j, h1, h2, h3, h4⟩ | ⟨j, h1, h2⟩
  · exact .inl ⟨j, by omega, h2, h3, hg _ _ h2.sub h4⟩
  · exact .inr ⟨j, by omega, h2⟩
theorem Outc.after {a n : Nat} {st st1 : σ × Int} {y : (σ × Int) × (Int × Int) × Int} {G : Rdr → Int × Int → Prop} (h : Aft P a st st1) (k : Outc P n st1 y G) : Outc P (a + n) st y G := by
  rcases k with ⟨j, h1, h2, h3⟩ | ⟨j, h1, h2, h3⟩
  · exact .inl ⟨a + j, by omega, h.trans h2, h3⟩
  · exact .inr ⟨a + j, by omega, h.trans h2, h3⟩
theorem Outc.put {s : σ} {p : Int} {x : RN} (h : P.In s) (hr : K.Rdy s 1) (hx : x.Ok) : Outc P 1 (s, p) (tputF K (s, p) x) fun rd r => rd r = some (nodeB x) ∧ r ≠ (0, 0) := by
  by_cases h0 : P.room s = 0
  · obtain ⟨h1, h2⟩ := P.full s (nodeB x) h h0
    refine .inr ⟨0, by omega, ?_, h1, ?_⟩
    · have e : (tputF K (s, p) x).1 = (s, p) := by
        unfold tputF
        simp only [h1, h2, P.ez0, if_false]
      rw [e]
      exact Aft.refl h
    · show P.room (K.put s (nodeB x)).1 = 0
      rw [h2]; exact h0
  · obtain ⟨h1, h2, h3, h4, h5, h6, h7⟩ := P.put s (nodeB x) h hr (nodeB_le hx) h0
    refine .inl ⟨1, by omega, ⟨h2, h5, h6, ?_, ?_, ?_⟩, h1, h3, h4⟩
    · show (if (K.put s (nodeB x)).2.2 = 0 then inc64 p else p) = incN p 1
      rw [if_pos h1]; rfl
    · show P.room (K.put s (nodeB x)).1 = if P.room s < 0 then P.room s else P.room s - (1 : Nat)
      rw [h7]
      by_cases g : P.room s < 0
      · rw [if_pos g, if_neg (by omega)]
      · rw [if_neg g, if_pos (by omega)]; simp
    · intro g
      have g : 0 ≤ P.room s := g
      show ((1 : Nat) : Int) ≤ P.room s
      omega
/-- A node that stands is read. -/
theorem tget_is {s : σ} {r : Int × Int} {l q : Nat} {b : Bytes} {x : RN} (h : P.In s) (hr : P.rd s r = some b) (hp : parseB b = some x) (hu : x.underB l q = true) : tgetF K s r l q = ((K.get s r).1, some x, 0) := by
  obtain ⟨h1, _⟩ := P.get s r b h hr
  rw [tgetF_eq (y := K.get s r) rfl, h1]
  simp only [ne_eq, not_true_eq_false, if_false, hp, hu, if_true]
/-! ### Get -/
theorem look_is {l q : Nat} {r : Int × Int} {m : Mp} {rd : Rdr} (h : Tells rd l q r m) : ∀ (n : Nat) (s : σ) (key : Nat), 7 ≤ n + l → P.In s → P.rd s = rd →
    ∃ s', lookF K n s r l q key = (s', (m key).getD [], (m key).isSome, 0) ∧ ∀ p, Aft P 0 (s, p) (s', p) := by
  induction h with
  | @lone l q r b x m h0 hr hp hu hl hm =>
    intro n s key hn hs he
    have hlv := under_iff.1 hu
    obtain ⟨n, rfl⟩ : ∃ k, n = k + 1 := ⟨n - 1, by omega⟩
    refine ⟨(K.get s r).1, ?_, fun p => Aft.got hs (by rw [he]; exact hr)⟩
    unfold lookF
    rw [if_neg h0, tget_is hs (by rw [he]; exact hr) hp hu]
    simp only
    rw [if_pos hl, hm]
    by_cases e : key = x.key
    · rw [if_pos e, if_pos e.symm]; rfl
    · rw [if_neg e, if_neg (fun h => e h.symm)]; rfl
  | @leaf l q r b x m h0 hr hp hu hl hne hm =>
    intro n s key hn hs he
    have hlv := under_iff.1 hu
    obtain ⟨n, rfl⟩ : ∃ k, n = k + 1 := ⟨n - 1, by omega⟩
    refine ⟨(K.get s r).1, ?_, fun p => Aft.got hs (by rw [he]; exact hr)⟩
    unfold lookF
    rw [if_neg h0, tget_is hs (by rw [he]; exact hr) hp hu]
    simp only
    rw [if_neg (by omega), hm, hl]
    by_cases e : frontN key 5 = x.prefix_ ∧ x.has (digN key 5) = true
    · rw [if_pos e, if_neg (by simp [e.1, e.2]), if_pos rfl]; rfl
    · rw [if_neg e, if_pos (by
        by_cases h1 : frontN key 5 = x.prefix_
        · exact .inr (by simpa [h1] using e)
        · exact .inl h1)]; rfl
  | @fork l q r b x m h0 hr hp hu hl hne ms hk hm ih =>
    intro n s key hn hs he
    have hlv := under_iff.1 hu
    obtain ⟨n, rfl⟩ : ∃ k, n = k + 1 := ⟨n - 1, by omega⟩
    have ha := fun p => Aft.got (p := p) hs (by rw [he]; exact hr)
    have hg := P.get s r b hs (by rw [he]; exact hr)
    unfold lookF
    rw [if_neg h0, tget_is hs (by rw [he]; exact hr) hp hu]
    simp only
    rw [if_neg (by omega), hm]
    by_cases e : frontN key x.level = x.prefix_ ∧ x.has (digN key x.level) = true
    · rw [if_pos e, if_neg (by simp [e.1, e.2]), if_neg (by omega)]
      obtain ⟨s', h1, h2⟩ := ih _ (digN_lt key x.level) e.2 n (K.get s r).1 key (by omega) hg.2.1 (hg.2.2.1.trans he)
      rw [front_succ _ (by omega), e.1]
      exact ⟨s', h1, fun p => (ha p).trans (h2 p)⟩
    · rw [if_neg e, if_pos (by
        by_cases h1 : frontN key x.level = x.prefix_
        · exact .inr (by simpa [h1] using e)
        · exact .inl h1)]
      exact ⟨_, rfl, ha⟩
/-! ### Set -/
theorem two_has {i k j : Nat} : (upd (upd (fun _ => false) i true) k true) j = true ↔ j = i ∨ j = k := by
  unfold upd
  by_cases h : j = k
  · simp [h]
  · by_cases h2 : j = i
    · simp [h2]
    · simp [h, h2]
theorem set_new {s : σ} {p : Int} {l q key : Nat} {v : Bytes} {m : Mp} (h : P.In s) (hr : K.Rdy s 1) (hk : key < 16777216) (hv : v.length ≤ 256) (hl : l ≤ 6) (hq : frontN key l = q) :
    Outc P 1 (s, p) (tputF K (s, p) (loneR key v)) fun rd r => (∀ k, m k = none) → Tells rd l q r (upd m key (some v)) := by
  refine (Outc.put h hr (lone_ok hk hv)).mono (Nat.le_refl _) fun rd r _ ⟨h1, h2⟩ hm => ?_
  refine Tells.putLone (lone_ok hk hv) rfl h2 h1 (under_iff.2 ⟨hl, ?_⟩) (fun k => ?_)
  · show frontN (loneR key v).some l = q
    exact hq
  · show upd m key (some v) k = if k = key then some v else none
    simp only [upd]
    split
    · rfl
    · exact hm k
theorem pair_is {s : σ} {p : Int} {l q key : Nat} {v : Bytes} {r : Int × Int} {x : RN} {m : Mp} (h : P.In s) (hr : K.Rdy s 2) (hK : K.Good) (hrb : Bd r) (hk : key < 16777216) (hv : v.length ≤ 256) (hl : l ≤ 5) (hq : frontN key l = q) (hx : x.Ok)
    (hu : x.underB l q = true) (hne : x.some ≠ key) (hpt : x.level = 6 ∨ frontN key x.level ≠ x.prefix_) (ht : ∀ l' q', x.underB l' q' = true → Tells (P.rd s) l' q' r m) (h6 : x.level = 6 → ∀ k, m k = if k = x.key then some x.val else none) :
    Outc P (6 - l) (s, p) (pairF K (s, p) r x key v) fun rd r' => Tells rd l q r' (upd m key (some v)) := by
  obtain ⟨hlx, hux⟩ := under_iff.1 hu
  have hsl := some_lt hx
  obtain ⟨hd, hf⟩ := fork_ne hsl hk hne
  have hge := fork_ge hsl hk hne hl (by rw [hux, hq])
  have hle := forkN_le x.some key
  have hlv := hx.lv
  -- the node lies below the place where they part
  have hbel : forkN x.some key < x.level := by
    rcases Nat.lt_or_ge (forkN x.some key) x.level with h | h
    · exact h
    · exfalso
      rcases hpt with e | e
      · omega
      · exact e (by rw [← front_some (x := x) (by omega)]; exact (front_eq_le h (by omega) hf).symm)
  have hmn : m key = none := by
    have h1 := ht 0 0 (under_iff.2 ⟨by omega, front0 hsl⟩)
    have h2 := ht x.level (frontN x.some x.level) (under_iff.2 ⟨Nat.le_refl _, rfl⟩)
    refine h2.non fun e => ?_
    exact hd (by
      have h3 : frontN key (forkN x.some key + 1) = frontN x.some (forkN x.some key + 1) := front_eq_le hbel (by omega) e
      rw [front_succ _ hle, front_succ _ hle] at h3
      omega)
  unfold pairF
  by_cases h5 : forkN x.some key = 5
  · rw [if_pos h5]
    rw [h5] at hd hf hbel
    have hx6 : x.level = 6 := by omega
    have hxs : x.some = x.key := by unfold RN.some; rw [if_pos hx6]
    have hok := pair0_vals_ok (f := frontN key 5) (d1 := digN x.some 5) (d2 := digN key 5) (front_lt hk (by omega)) hx.v hv
    refine (Outc.put h (hK.mono _ _ _ hr (by omega)) hok).mono (by omega) fun rd r' _ ⟨h1, h2⟩ => ?_
    refine Tells.putLeaf hok rfl ⟨digN key 5, digN_lt _ _, two_has.2 (.inr rfl)⟩ h2 h1 (under_iff.2 ⟨hl, ?_⟩) (fun k => ?_)
    · have e : frontN (({ pair0 5 (frontN key 5) (digN x.some 5) (digN key 5) with vals := upd (upd (fun _ => []) (digN x.some 5) x.val) (digN key 5) v } : RN).some) 5 = frontN key 5 := front_some (x := ({ pair0 5 (frontN key 5) (digN x.some 5) (digN key 5) with vals := upd (upd (fun _ => []) (digN x.some 5) x.val) (digN key 5) v } : RN)) (by show 5 ≤ 5; omega)
      rw [front_eq_le hl (by omega) e, hq]
    · show upd m key (some v) k = if frontN k 5 = frontN key 5 ∧ (upd (upd (fun _ => false) (digN x.some 5) true) (digN key 5) true) (digN k 5) = true then some ((upd (upd (fun _ => []) (digN x.some 5) x.val) (digN key 5) v) (digN k 5)) else none
      have hkey : ∀ a, frontN k 5 = frontN a 5 → digN k 5 = digN a 5 → k = a := fun a e1 e2 => by
        have := front_succ k (l := 5) (by omega)
        have h7 := front_succ a (l := 5) (by omega)
        rw [front6] at this h7
        omega
      simp only [two_has]
      by_cases e1 : k = key
      · subst e1
        rw [if_pos ⟨rfl, .inr rfl⟩, upd_same, upd_same]
      · rw [upd_other _ _ _ e1, h6 hx6]
        by_cases e2 : k = x.key
        · subst e2
          rw [← hxs, if_pos rfl, if_pos ⟨hf, .inl rfl⟩, upd_other _ _ _ hd, upd_same]
        · rw [if_neg e2, if_neg]
          rintro ⟨e3, e4 | e4⟩
          · exact e2 (by rw [← hxs]; exact hkey _ (e3.trans hf.symm) e4)
          · exact e1 (hkey _ e3 e4)
  · rw [if_neg h5]
    have hf5 : forkN x.some key < 5 := by omega
    generalize forkN x.some key = f at *
    have hleaf := set_new (p := p) (l := f + 1) (q := frontN key (f + 1)) (m := fun _ => none) h (hK.mono _ _ _ hr (by omega)) hk hv (by omega) rfl
    have hgd := tput_good hK (p := p) (m := 1) hr (lone_ok hk hv)
    generalize tputF K (s, p) (loneR key v) = y at *
    obtain ⟨⟨s1, p1⟩, leaf, er⟩ := y
    simp only
    rcases hleaf with ⟨j, hj, ha, he, hg⟩ | ⟨j, hj, ha, he, hroom⟩
    · simp only at he hg ha hgd
      subst he
      rw [if_neg (by simp)]
      have hok := pair0_kids_ok (l := f) (f := frontN key f) (d1 := digN x.some f) (d2 := digN key f) hle (front_lt hk (by omega)) hrb (hgd.2 rfl)
      refine (Outc.after ha ((Outc.put (p := p1) ha.inn hgd.1 hok).mono (n' := 1) (Nat.le_refl _) (G' := fun rd r' => Tells rd l q r' (upd m key (some v))) fun rd r' hsub ⟨h1, h2⟩ => ?_)).mono (by omega) (fun _ _ _ h => h)
      have hsub0 : SubR (P.rd s) rd := ha.sub.trans hsub
      refine Tells.putFork hok hf5 ⟨digN key f, digN_lt _ _, two_has.2 (.inr rfl)⟩ h2 h1 (under_iff.2 ⟨hge, ?_⟩) (upd (fun _ => m) (digN key f) (upd (fun _ => none) key (some v))) (fun i hi hh => ?_) (fun k => ?_)
      · have e : frontN (({ pair0 f (frontN key f) (digN x.some f) (digN key f) with kids := upd (upd (fun _ => (0, 0)) (digN x.some f) r) (digN key f) leaf } : RN).some) f = frontN key f := front_some (x := ({ pair0 f (frontN key f) (digN x.some f) (digN key f) with kids := upd (upd (fun _ => (0, 0)) (digN x.some f) r) (digN key f) leaf } : RN)) (by show f ≤ 5; omega)
        rw [front_eq_le hge (by omega) e, hq]
      · show Tells rd (f + 1) (frontN key f * 16 + i) ((upd (upd (fun _ => (0, 0)) (digN x.some f) r) (digN key f) leaf) i) (upd (fun _ => m) (digN key f) (upd (fun _ => none) key (some v)) i)
        have hh : (upd (upd (fun _ => false) (digN x.some f) true) (digN key f) true) i = true := hh
        rcases two_has.1 hh with e | e
        · subst e
          rw [upd_other _ _ _ hd, upd_same, upd_other _ _ _ hd, ← hf, ← front_succ _ (by omega)]
          exact (ht _ _ (under_iff.2 ⟨hbel, rfl⟩)).mono hsub0
        · subst e
          rw [upd_same, upd_same, ← front_succ _ (by omega)]
          exact (hg (by intros; trivial)).mono hsub
      · show upd m key (some v) k = if frontN k f = frontN key f ∧ (upd (upd (fun _ => false) (digN x.some f) true) (digN key f) true) (digN k f) = true then upd (fun _ => m) (digN key f) (upd (fun _ => none) key (some v)) (digN k f) k else none
        have hmx := ht (f + 1) (frontN x.some (f + 1)) (under_iff.2 ⟨hbel, rfl⟩)
        by_cases e1 : k = key
        · subst e1
          rw [if_pos ⟨rfl, two_has.2 (.inr rfl)⟩, upd_same, upd_same, upd_same]
        · rw [upd_other _ _ _ e1]
          by_cases e2 : frontN k f = frontN key f ∧ digN k f = digN x.some f
          · rw [if_pos ⟨e2.1, two_has.2 (.inl e2.2)⟩, e2.2, upd_other _ _ _ hd]
          · have hmk : m k = none := hmx.non fun e => by
              rw [front_succ _ (by omega), front_succ _ (by omega), hf] at e
              have g1 := digN_lt k f
              have g2 := digN_lt x.some f
              exact e2 (by omega)
            rw [hmk]
            split
            · rename_i e3
              rcases two_has.1 e3.2 with e | e
              · exact absurd ⟨e3.1, e⟩ e2
              · rw [e, upd_same, upd_other _ _ _ e1]
            · rfl
    · simp only at he ha hroom
      have hne2 : er ≠ 0 := by rw [he]; exact P.ez0
      rw [if_pos hne2]
      exact .inr ⟨j, by omega, ha, he, hroom⟩
end
end Go.Proofs.Ytgkdggidgaifhaa
