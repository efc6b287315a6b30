/- radix: the nodes that a walk passes. radix: Nodes. -/
import Derived.Test.YtgkdggidgaifhaaEaZ
import Derived.Test.YtgkdggidgaifhaaME
import Derived.Test.YtgkdggidgaifhaaEdZ
namespace Go.Proofs.Ytgkdggidgaifhaa
open Go.RowKit
set_option linter.unusedVariables false
set_option linter.unusedSimpArgs false
abbrev Vs := List (Int × Int)
def vK (vss : Nat → Vs) (x : RN) : Nat → Nat → Vs
  | 0, _ => []
  | m + 1, i => if x.has i = true then vss i ++ vK vss x m (i + 1) else vK vss x m (i + 1)
theorem vK_len (pss : Nat → Ps × Vs) (x : RN) : ∀ m i, (vK (fun i => (pss i).2) x m i).length = cK (fun i => ((pss i).1, (pss i).2.length)) x m i
  | 0, _ => rfl
  | m + 1, i => by
    unfold vK cK
    split
    · rw [List.length_append, vK_len pss x m (i + 1)]
    · exact vK_len pss x m (i + 1)
section
variable {σ : Type} {K : SnkF σ} (P : PSnk K)
structure NodIs (rd : Rdr) (l q : Nat) (r : Int × Int) (m : Mp) (ps : Ps) (vs : Vs) : Prop where
  lst : Lst m ps
  ne : ps ≠ []
  le : vs.length ≤ (7 - l) * ps.length
  go : ∀ (n : Nat) (s : σ) (left : Int) (a : Vs), 7 ≤ n + l → P.In s → P.rd s = rd → (vs.length : Int) ≤ left → ∃ s', walkF K cbN n (s, left, a) r l q = ((s', left - vs.length, a ++ vs), true, 0) ∧ Like P s s'
theorem nkids_is {rd : Rdr} {x : RN} {ms : Nat → Mp} (pss : Nat → Ps × Vs) (hp : ∀ i, i < 16 → x.has i = true → NodIs P rd (x.level + 1) (x.prefix_ * 16 + i) (x.kids i) (ms i) (pss i).1 (pss i).2) (hl : x.level < 5)
    (n : Nat) (hn : 7 ≤ n + (x.level + 1)) : ∀ (m i : Nat) (s : σ) (left : Int) (a : Vs), i + m ≤ 16 → P.In s → P.rd s = rd → ((vK (fun i => (pss i).2) x m i).length : Int) ≤ left →
    ∃ s', kidsF (walkF K cbN n) x m i (s, left, a) = ((s', left - (vK (fun i => (pss i).2) x m i).length, a ++ vK (fun i => (pss i).2) x m i), true, 0) ∧ Like P s s'
  | 0, i, s, left, a, _, hs, he, _ => ⟨s, by simp [kidsF, vK], Like.refl hs⟩
  | m + 1, i, s, left, a, him, hs, he, hle => by
    unfold kidsF vK at *
    by_cases hh : x.has i = true
    · rw [if_pos hh, List.length_append] at hle
      rw [if_neg (by rw [hh]; simp; omega), if_pos hh]
      obtain ⟨s1, h1, h2⟩ := (hp i (by omega) hh).go n s left a hn hs he (by omega)
      rw [h1]
      obtain ⟨s2, h5, h6⟩ := nkids_is pss hp hl n hn m (i + 1) s1 (left - (pss i).2.length) (a ++ (pss i).2) (by omega) h2.inn (h2.rd.trans he) (by omega)
      refine ⟨s2, ?_, h2.trans h6⟩
      simp only [if_true]
      rw [h5, List.append_assoc, List.length_append]
      have e : left - ((pss i).2.length : Int) - ((vK (fun i => (pss i).2) x m (i + 1)).length : Int) = left - (((pss i).2.length + (vK (fun i => (pss i).2) x m (i + 1)).length : Nat) : Int) := by omega
      rw [e]
    · rw [if_neg hh] at hle
      rw [if_pos (.inl (by simpa using hh)), if_neg hh]
      exact nkids_is pss hp hl n hn m (i + 1) s left a (by omega) hs he hle
/-- The nodes of a tree. -/
theorem nodes_is {rd : Rdr} {l q : Nat} {r : Int × Int} {m : Mp} (h : Tells rd l q r m) : ∃ ps vs, NodIs P rd l q r m ps vs := by
  induction h with
  | @lone l q r b x m h0 hr hp hu hl hm =>
    have hlu := under_iff.1 hu
    refine ⟨[(x.key, x.val)], [r], ⟨⟨List.pairwise_singleton _ _, fun k v => ?_⟩, by simp, by simp; omega, fun n s left a hn hs he hle => ?_⟩⟩
    · rw [hm, List.mem_singleton]
      by_cases e : k = x.key
      · rw [if_pos e, e]
        constructor
        · intro h; cases h; rfl
        · intro h; cases h; rfl
      · rw [if_neg e]
        constructor
        · intro h; cases h; exact absurd rfl e
        · intro h; cases h
    · obtain ⟨n, rfl⟩ : ∃ k, n = k + 1 := ⟨n - 1, by omega⟩
      obtain ⟨s1, h1, h2⟩ := tget_like P hs (by rw [he]; exact hr) hp hu
      have hle1 : (1 : Int) ≤ left := by simpa using hle
      unfold walkF
      rw [if_neg h0, if_neg (by omega), h1]
      simp only
      rw [if_neg (by simp [cbN]), kidsF_skip _ _ (by omega)]
      exact ⟨s1, rfl, h2⟩
  | @leaf l q r b x m h0 hr hp hu hl hne hm =>
    have hlu := under_iff.1 hu
    refine ⟨psL x 16 0, [r], ⟨⟨psL_up x 16 0, fun k v => ?_⟩, ?_, ?_, fun n s left a hn hs he hle => ?_⟩⟩
    · rw [hm, psL_mem]
      have hf := front_succ k (l := 5) (by omega)
      rw [front6] at hf
      have hd := digN_lt k 5
      constructor
      · rintro ⟨j, h1, h2, h3, h4, h5⟩
        have e1 : digN k 5 = j := by omega
        rw [if_pos ⟨by omega, by rw [e1]; exact h3⟩, e1, h5]
      · intro h
        split at h
        · rename_i e
          exact ⟨digN k 5, by omega, by omega, e.2, by omega, (Option.some.inj h).symm⟩
        · cases h
    · obtain ⟨i, hi, hh⟩ := hne
      intro e
      have := (psL_mem x 16 0 (x.prefix_ * 16 + i) (x.vals i)).2 ⟨i, by omega, by omega, hh, rfl, rfl⟩
      rw [e] at this
      cases this
    · have hpos : 0 < (psL x 16 0).length := by
        obtain ⟨i, hi, hh⟩ := hne
        exact List.length_pos_of_mem ((psL_mem x 16 0 (x.prefix_ * 16 + i) (x.vals i)).2 ⟨i, by omega, by omega, hh, rfl, rfl⟩)
      have h7 : 1 ≤ 7 - l := by omega
      exact Nat.le_trans (by simp) (Nat.mul_le_mul h7 hpos)
    · obtain ⟨n, rfl⟩ : ∃ k, n = k + 1 := ⟨n - 1, by omega⟩
      obtain ⟨s1, h1, h2⟩ := tget_like P hs (by rw [he]; exact hr) hp hu
      have hle1 : (1 : Int) ≤ left := by simpa using hle
      unfold walkF
      rw [if_neg h0, if_neg (by omega), h1]
      simp only
      rw [if_neg (by simp [cbN]), kidsF_skip _ _ (by omega)]
      exact ⟨s1, rfl, h2⟩
  | @fork l q r b x m h0 hr hp hu hl hne ms hk hm ih =>
    have hlu := under_iff.1 hu
    obtain ⟨pss, hpss⟩ := Classical.axiomOfChoice (r := fun (i : Nat) (y : Ps × Vs) => i < 16 → x.has i = true → NodIs P rd (x.level + 1) (x.prefix_ * 16 + i) (x.kids i) (ms i) y.1 y.2) (fun i => by
      by_cases hc : i < 16 ∧ x.has i = true
      · obtain ⟨ps, c, h⟩ := ih i hc.1 hc.2
        exact ⟨(ps, c), fun _ _ => h⟩
      · exact ⟨([], []), fun h1 h2 => absurd ⟨h1, h2⟩ hc⟩)
    have hfr : ∀ i, i < 16 → x.has i = true → ∀ kv ∈ (pss i).1, frontN kv.1 (x.level + 1) = x.prefix_ * 16 + i := fun i hi hh kv hkv => by
      have h1 := ((hpss i hi hh).lst.mem kv.1 kv.2).1 hkv
      exact ((hk i hi hh).key (by rw [h1]; simp)).2
    have hup := psK_up (fun i => ((pss i).1, (pss i).2.length)) x (x.level + 1) hfr (fun i hi hh => (hpss i hi hh).lst.up) 16 0 (by omega)
    have hpos : 0 < (psK (fun i => ((pss i).1, (pss i).2.length)) x 16 0).length := by
      obtain ⟨i, hi, hh⟩ := hne
      obtain ⟨kv, hkv⟩ := List.exists_mem_of_ne_nil _ (hpss i hi hh).ne
      exact List.length_pos_of_mem ((psK_mem (fun i => ((pss i).1, (pss i).2.length)) x 16 0 kv).2 ⟨i, by omega, by omega, hh, hkv⟩)
    refine ⟨psK (fun i => ((pss i).1, (pss i).2.length)) x 16 0, r :: vK (fun i => (pss i).2) x 16 0, ⟨⟨hup, fun k v => ?_⟩, fun e => by rw [e] at hpos; simp at hpos, ?_, fun n s left a hn hs he hle => ?_⟩⟩
    · rw [psK_mem, hm]
      constructor
      · rintro ⟨j, h1, h2, h3, h4⟩
        obtain ⟨g1, g2⟩ := front_digit (by omega) (by omega) (hfr j (by omega) h3 _ h4)
        rw [if_pos ⟨g1, by rw [g2]; exact h3⟩, g2]
        exact ((hpss j (by omega) h3).lst.mem k v).1 h4
      · intro h
        split at h
        · rename_i e
          have hd := digN_lt k x.level
          exact ⟨digN k x.level, by omega, by omega, e.2, ((hpss _ hd e.2).lst.mem k v).2 h⟩
        · cases h
    · rw [List.length_cons, vK_len]
      have h1 := cK_le (fun i => ((pss i).1, (pss i).2.length)) x (7 - (x.level + 1)) (fun i hi hh => (hpss i hi hh).le) 16 0 (by omega)
      have h2 : (7 - (x.level + 1)) * (psK (fun i => ((pss i).1, (pss i).2.length)) x 16 0).length + (psK (fun i => ((pss i).1, (pss i).2.length)) x 16 0).length = (7 - x.level) * (psK (fun i => ((pss i).1, (pss i).2.length)) x 16 0).length := by
        rw [← Nat.succ_mul]; congr 1; omega
      have h3 : (7 - x.level) * (psK (fun i => ((pss i).1, (pss i).2.length)) x 16 0).length ≤ (7 - l) * (psK (fun i => ((pss i).1, (pss i).2.length)) x 16 0).length := Nat.mul_le_mul (by omega) (Nat.le_refl _)
      omega
    · obtain ⟨n, rfl⟩ : ∃ k, n = k + 1 := ⟨n - 1, by omega⟩
      obtain ⟨s1, h1, h2⟩ := tget_like P hs (by rw [he]; exact hr) hp hu
      rw [List.length_cons] at hle
      unfold walkF
      rw [if_neg h0, if_neg (by omega), h1]
      simp only
      rw [if_neg (by simp [cbN])]
      obtain ⟨s2, h5, h6⟩ := nkids_is P pss hpss hl n (by omega) 16 0 s1 (left - 1) (cbN a r x).1 (by omega) h2.inn (h2.rd.trans he) (by omega)
      refine ⟨s2, ?_, h2.trans h6⟩
      rw [h5, List.length_cons]
      have e : left - 1 - ((vK (fun i => (pss i).2) x 16 0).length : Int) = left - (((vK (fun i => (pss i).2) x 16 0).length + 1 : Nat) : Int) := by omega
      rw [e]
      simp [cbN]
/-- The nodes that a root reaches: the same ones whenever it is asked. -/
theorem nodes_list {s : σ} {r : Int × Int} {m : Mp} {ps : Ps} (hm : TellsR (P.rd s) r m) (hp : Lst m ps) (hl : ps.length ≤ 149796) : ∃ vs : Vs, vs.length ≤ 7 * ps.length ∧ ∀ s1, P.In s1 → P.rd s1 = P.rd s →
    ∃ s' left', walkF K cbN 7 (s1, 1048576, []) r 0 0 = ((s', left', vs), true, 0) ∧ Like P s1 s' := by
  rcases hm with ⟨rfl, h⟩ | h
  · refine ⟨[], by simp, fun s1 hi _ => ⟨s1, 1048576, ?_, Like.refl hi⟩⟩
    unfold walkF
    rw [if_pos rfl]
  · obtain ⟨ps', vs, hw⟩ := nodes_is P h
    have hpl : ps'.length = ps.length := rise_len (f := fun x : Nat × Bytes => x.1) (g := fun x : Nat × Bytes => x.1) hw.lst.up hp.up fun k => by
      constructor
      · rintro ⟨⟨k', v⟩, hx, rfl⟩
        exact ⟨(k', v), (hp.mem _ _).2 ((hw.lst.mem _ _).1 hx), rfl⟩
      · rintro ⟨⟨k', v⟩, hx, rfl⟩
        exact ⟨(k', v), (hw.lst.mem _ _).2 ((hp.mem _ _).1 hx), rfl⟩
    have hle := hw.le
    rw [hpl] at hle
    refine ⟨vs, by omega, fun s1 hi he => ?_⟩
    obtain ⟨s', h1, h2⟩ := hw.go 7 s1 1048576 [] (by omega) hi he (by omega)
    exact ⟨s', _, by rw [h1, List.nil_append], h2⟩
end
end Go.Proofs.Ytgkdggidgaifhaa
namespace Go.Proofs.Ytgkdggidgaifhaa
open Go.RowKit Go.Lib Go.Sort
set_option linter.unusedVariables false
set_option linter.unusedSimpArgs false
/-- The addresses in order. -/
def sortL (d : Vs) : Vs := d.mergeSort fun x y => !(ltOf ordA) y x
/-- .. each once. -/
def nodL (d : Vs) : Vs := compactUpTo (sortL d).toArray (sortL d).toArray.size
theorem sortL_len (d : Vs) : (sortL d).length = d.length := by simp [sortL]
/-- A row of addresses in a block of its own, or none. -/
def Nr (w : World) (B : Nat) (A : Option Addr) (n c : Nat) (d : Vs) : Prop := (n = 0 ∧ d = []) ∨ ∃ G, A = some ⟨G, 0, none⟩ ∧ B < G ∧ RwP w G 0 d.toArray ∧ n ≤ c ∧ d.length = n ∧ ∀ x ∈ d, Bd x
def nrO (A : Option Addr) (n : Nat) (k : Nat) : Prop := 0 < n ∧ A = some ⟨k, 0, none⟩
theorem nr_of {w : World} {B c : Nat} {A : Option Addr} {d : Vs} (h : RwIv elR B B w d A c) : Nr w B A d.length c d := by
  rcases Nat.eq_zero_or_pos d.length with e | e
  · exact .inl ⟨e, List.eq_nil_of_length_eq_zero e⟩
  · obtain ⟨G, cap, hG, hcap, _⟩ := World.ownsRow.form h.row e
    have hrow := h.row
    have hn := h.nB.1
    rw [hG] at hrow hn
    cases hG
    have hlt := World.ownsRow.lt hrow G rfl
    have hne : G ≠ B := fun e => hn (by rw [← e]; rfl)
    obtain ⟨g, o, hgo, _, hc⟩ := h.ls.1.at_ e
    cases hgo
    have hcap2 : d.length ≤ c := by
      rcases hrow.2 with ⟨e1, h0⟩ | ⟨q, cap, cur, hq, _, _, hq2, _⟩
      · cases e1
      · cases hq; exact hq2
    refine .inr ⟨G, rfl, by omega, ⟨hlt.2, fun i hi => ?_⟩, hcap2, rfl, h.ok⟩
    have hi' : i < d.length := by simpa using hi
    have hx : d[i]? = some d.toArray[i]! := by
      rw [getElem!_pos d.toArray i hi, List.getElem?_eq_getElem hi']
      simp
    have c0 := hc i _ hx 0 _ rfl
    have c1 := hc i _ hx 1 _ rfl
    exact ⟨c0, c1, World.ownsRow.frozenAt hrow _, World.ownsRow.frozenAt hrow _⟩
theorem nsort_any {w : World} {B n c : Nat} {A : Option Addr} {d : Vs} (h : Nr w B A n c d) (hl : d.length ≤ 33554432) :
    Calls Try.prog 32 #[.slice A n c, .func (.func 33) #[] #[]] w fun e w' => e = .returned (.tuple #[]) ∧ Nr w' B A n c (sortL d) ∧ Off (nrO A n) w w' := by
  rcases h with ⟨rfl, rfl⟩ | ⟨G, rfl, hG, hr, hc, rfl, hbd⟩
  · exact (sortR_none w A c).mono fun e w' ⟨he, hw⟩ => by
      subst hw
      exact ⟨he, .inl ⟨rfl, by simp [sortL]⟩, Off.refl _ _⟩
  · rcases Nat.eq_zero_or_pos d.length with e0 | e0
    · have hd := List.eq_nil_of_length_eq_zero e0
      subst hd
      exact (sortR_none w _ c).mono fun e w' ⟨he, hw⟩ => by
        subst hw
        exact ⟨he, .inl ⟨rfl, by simp [sortL]⟩, Off.refl _ _⟩
    have h1 := sortR_any (c := c) (holds_of_rwp hr) hr.1 (by simp; omega)
    have hsz : d.toArray.size = d.length := by simp
    rw [hsz] at h1
    refine h1.mono fun e w' ⟨he, n, os, hw⟩ => ?_
    subst hw
    have hs : (d.toArray.toList.mergeSort fun x y => !(ltOf ordA) y x).toArray = (sortL d).toArray := by simp [sortL]
    rw [hs]
    have h2 := sort_world (n := n) (os := os) (d' := (sortL d).toArray) hr (by simp [sortL_len])
    exact ⟨he, .inr ⟨G, rfl, hG, h2.1, hc, sortL_len d, fun x hx => hbd x (by simpa [sortL] using hx)⟩, h2.2.mono fun k e => by
      have e : k = G := e
      subst e
      exact ⟨e0, rfl⟩⟩
theorem cp_mem {d : Vs} {x : Int × Int} (h : x ∈ compactUpTo d.toArray d.length) : x ∈ d := by
  unfold compactUpTo at h
  obtain ⟨j, hj, rfl⟩ := List.mem_map.1 h
  have hj2 : j < d.length := List.mem_range.1 (List.mem_filter.1 hj).1
  have : d.toArray[j]! = d[j] := by rw [getElem!_pos d.toArray j (by simpa using hj2)]; simp
  rw [this]
  exact List.getElem_mem hj2
theorem ncompact_any {w : World} {B n c : Nat} {A : Option Addr} {d : Vs} (h : Nr w B A n c d) (hl : d.length ≤ 33554432) :
    Calls Try.prog 34 #[.slice A n c] w fun e w' => e = .returned (.slice A (compactUpTo d.toArray d.toArray.size).length c) ∧ LgAt elR w' A (compactUpTo d.toArray d.toArray.size) ∧ Off (nrO A n) w w' := by
  have hz : ∀ w', LgAt elR w' A (compactUpTo (#[] : Array (Int × Int)) 0) := fun w' => ⟨fun x hx => by simp [compactUpTo] at hx, fun e => by simp [compactUpTo] at e⟩
  rcases h with ⟨rfl, rfl⟩ | ⟨G, rfl, hG, hr, hc, rfl, hbd⟩
  · exact (compact_none w A c).mono fun e w' ⟨he, hw⟩ => by
      subst hw
      exact ⟨he, hz _, Off.refl _ _⟩
  · rcases Nat.eq_zero_or_pos d.length with e0 | e0
    · have hd := List.eq_nil_of_length_eq_zero e0
      subst hd
      exact (compact_none w _ c).mono fun e w' ⟨he, hw⟩ => by
        subst hw
        exact ⟨he, hz _, Off.refl _ _⟩
    have h1 := compact_any (c := c) hr (by simpa using hl) (by simpa using hc)
    have hsz : d.toArray.size = d.length := by simp
    rw [hsz] at h1
    refine h1.mono fun e w' ⟨he, ho, hcc⟩ => ?_
    rw [hsz] at he hcc ⊢
    refine ⟨he, ⟨fun x hx => hbd x (cp_mem hx), fun _ => ⟨G, 0, rfl, Nat.lt_of_lt_of_le hr.1 ho.size, fun i x hx j u hu => ?_⟩⟩, ho.mono fun k e => by
      have e : k = G := e
      subst e
      exact ⟨e0, rfl⟩⟩
    obtain ⟨z0, z1⟩ := hcc i x hx
    match j, hu with
    | 0, hu => cases hu; exact z0
    | 1, hu => cases hu; exact z1
    | j + 2, hu => simp [elR] at hu
theorem nkids_len {σ : Type} {W : WkSt σ Vs → Int × Int → Nat → Nat → WkSt σ Vs × Bool × Int} (hW : ∀ st r l q, 0 ≤ st.2.1 → -1 ≤ (W st r l q).1.2.1 ∧ ((W st r l q).2.1 = true → 0 ≤ (W st r l q).1.2.1) ∧ (W st r l q).1.2.1 + (W st r l q).1.2.2.length ≤ st.2.1 + st.2.2.length) (x : RN) :
    ∀ (m i : Nat) (st : WkSt σ Vs), 0 ≤ st.2.1 → -1 ≤ (kidsF W x m i st).1.2.1 ∧ ((kidsF W x m i st).2.1 = true → 0 ≤ (kidsF W x m i st).1.2.1) ∧ (kidsF W x m i st).1.2.1 + (kidsF W x m i st).1.2.2.length ≤ st.2.1 + st.2.2.length
  | 0, i, st, h => ⟨by show -1 ≤ st.2.1; omega, fun _ => h, Int.le_refl _⟩
  | m + 1, i, st, h => by
    unfold kidsF
    split
    · exact nkids_len hW x m _ _ h
    · have h1 := hW st (x.kids i) (x.level + 1) (x.prefix_ * 16 + i) h
      generalize W st (x.kids i) (x.level + 1) (x.prefix_ * 16 + i) = y at h1 ⊢
      obtain ⟨st', more, e⟩ := y
      simp only at h1 ⊢
      split
      · rename_i hm
        have h2 := nkids_len hW x m (i + 1) st' (h1.2.1 hm)
        exact ⟨h2.1, h2.2.1, by omega⟩
      · exact ⟨h1.1, (fun e => by cases e), h1.2.2⟩
theorem walkN_len {σ : Type} {K : SnkF σ} : ∀ (n : Nat) (st : WkSt σ Vs) (r : Int × Int) (l q : Nat), 0 ≤ st.2.1 → -1 ≤ (walkF K cbN n st r l q).1.2.1 ∧ ((walkF K cbN n st r l q).2.1 = true → 0 ≤ (walkF K cbN n st r l q).1.2.1) ∧ (walkF K cbN n st r l q).1.2.1 + (walkF K cbN n st r l q).1.2.2.length ≤ st.2.1 + st.2.2.length
  | 0, st, r, l, q, h => ⟨by show -1 ≤ st.2.1; omega, fun _ => h, Int.le_refl _⟩
  | n + 1, (s, left, a), r, l, q, h => by
    have h' : 0 ≤ left := h
    unfold walkF
    split
    · exact ⟨by show -1 ≤ left; omega, fun _ => h', Int.le_refl _⟩
    · split
      · exact ⟨by show -1 ≤ left - 1; omega, (fun e => by cases e), by show left - 1 + (a.length : Int) ≤ left + a.length; omega⟩
      · split
        · exact ⟨by show -1 ≤ left - 1; omega, (fun e => by cases e), by show left - 1 + (a.length : Int) ≤ left + a.length; omega⟩
        · rename_i s1 x _ _
          rw [if_neg (by simp [cbN])]
          have h2 := nkids_len (fun st r l q h => walkN_len (K := K) n st r l q h) x 16 0 (s1, left - 1, (cbN a r x).1) (by show 0 ≤ left - 1; omega)
          refine ⟨h2.1, h2.2.1, Int.le_trans h2.2.2 ?_⟩
          show left - 1 + (((a ++ [r]).length : Nat) : Int) ≤ left + a.length
          simp
          omega
theorem nd_boxes (w : World) (r : Int × Int) (t1 t2 t3 : TypeId) (n : Int) :
    ∀ W, W = (((w.alloc (.cells #[.int .i64 r.1, .int .i64 r.2] t1)).alloc (.cells #[.slice none 0 0] t2)).alloc (.cells #[.int .i64 n] t3)) →
    Below w.heap.size w W ∧ BoxA W w.heap.size r ∧ (W.cell? ⟨w.heap.size + 1, 0, none⟩ = some (.slice none 0 0) ∧ W.frozen? ⟨w.heap.size + 1, 0, none⟩ = false) ∧ (W.cell? ⟨w.heap.size + 1 + 1, 0, none⟩ = some (.int .i64 n) ∧ W.frozen? ⟨w.heap.size + 1 + 1, 0, none⟩ = false) ∧ W.heap.size = w.heap.size + 3 := by
  rintro W rfl
  have s1 : (w.alloc (.cells #[.int .i64 r.1, .int .i64 r.2] t1)).heap.size = w.heap.size + 1 := by simp
  have s2 : ((w.alloc (.cells #[.int .i64 r.1, .int .i64 r.2] t1)).alloc (.cells #[.slice none 0 0] t2)).heap.size = w.heap.size + 2 := by simp
  have b1 : Below w.heap.size w (w.alloc (.cells #[.int .i64 r.1, .int .i64 r.2] t1)) := (Below.refl _ _).alloc (Nat.le_refl _) _
  have x1 := BoxA.new w t1 r
  generalize w.alloc (.cells #[.int .i64 r.1, .int .i64 r.2] t1) = W1 at *
  have b2 : Below W1.heap.size W1 (W1.alloc (.cells #[.slice none 0 0] t2)) := (Below.refl _ _).alloc (Nat.le_refl _) _
  have c2 := alloc_at W1 (.slice none 0 0) t2
  rw [s1] at c2
  generalize W1.alloc (.cells #[.slice none 0 0] t2) = W2 at *
  have b3 : Below W2.heap.size W2 (W2.alloc (.cells #[.int .i64 n] t3)) := (Below.refl _ _).alloc (Nat.le_refl _) _
  have c3 := alloc_at W2 (.int .i64 n) t3
  rw [s2] at c3
  have s3 : (W2.alloc (.cells #[.int .i64 n] t3)).heap.size = w.heap.size + 3 := by simp [s2]
  generalize W2.alloc (.cells #[.int .i64 n] t3) = W3 at *
  have b123 : Below w.heap.size w W3 := (b1.trans (b2.mono (by omega))).trans (b3.mono (by omega))
  have x3 : BoxA W3 w.heap.size r := (x1.off (S := fun _ => False) (Off.of_below b2) id).off (S := fun _ => False) (Off.of_below b3) id
  exact ⟨b123, x3, ⟨(b3.cell (p := ⟨w.heap.size + 1, 0, none⟩) (by show w.heap.size + 1 < W2.heap.size; omega)).trans c2.1, (b3.frozen (p := ⟨w.heap.size + 1, 0, none⟩) (by show w.heap.size + 1 < W2.heap.size; omega)).trans c2.2⟩, c3, s3⟩
/-- Nodes has answered: the nodes in order, each once, in a row that nobody has; or an error. -/
def NdPost {σ : Type} {K : SnkF σ} (M : Snk K) (w : World) (T : Nat) (O : Nat → Prop) (p : Int) (y : WkSt σ Vs × Bool × Int) (e : Ending) (w' : World) : Prop :=
  TrAt M w' T O y.1.1 p ∧ Off O w w' ∧ ((y.2.2 ≠ 0 ∧ e = .returned (.tuple #[.slice none 0 0, .int .i64 y.2.2])) ∨ (y.2.2 = 0 ∧ ∃ A c, e = .returned (.tuple #[.slice A (nodL y.1.2.2).length c, .int .i64 0]) ∧ LgAt elR w' A (nodL y.1.2.2) ∧ ∀ k, lgO elR A (nodL y.1.2.2) k → w.heap.size ≤ k))
set_option maxRecDepth 100000 in
set_option maxHeartbeats 4000000 in
theorem nodes_any {σ : Type} {K : SnkF σ} {M : Snk K} (hK : K.Good) {w : World} {T : Nat} {O : Nat → Prop} {s : σ} {p : Int} (h : TrAt M w T O s p) (hr : K.Rdy s 0) (r : Int × Int) :
    Calls Try.prog 19 #[.pointer (some ⟨T, 0, none⟩), .agg #[.int .i64 r.1, .int .i64 r.2]] w (NdPost M w T O p (walkF K cbN 7 (s, 1048576, []) r 0 0)) := by
  obtain ⟨ra, rb⟩ := r
  have H := Lib.hid h
  have lT := h.lt
  have HOL := Lib.hid (fun k hk => M.lt h.at_ (k := k) hk)
  clear h
  go_enter Try.func19, Try.ntmps19
  go_upto_region 3 with (fail)
  refine wp_forget (fun V => Below w.heap.size w V ∧ BoxA V w.heap.size (ra, rb) ∧ (V.cell? ⟨w.heap.size + 1, 0, none⟩ = some (.slice none 0 0) ∧ V.frozen? ⟨w.heap.size + 1, 0, none⟩ = false) ∧ (V.cell? ⟨w.heap.size + 1 + 1, 0, none⟩ = some (.int .i64 1048576) ∧ V.frozen? ⟨w.heap.size + 1 + 1, 0, none⟩ = false) ∧ V.heap.size = w.heap.size + 3) (nd_boxes w (ra, rb) _ _ _ _ _ rfl) ?_
  rintro W0 ⟨hb0, hx, ⟨c1, f1⟩, ⟨c2, f2⟩, hs⟩
  have hiv0 : ivN (w.heap.size + 1) W0 (fun k => k = w.heap.size + 1) [] := ⟨none, 0, ⟨c1, f1, World.ownsRow_nil _ _ _ _, by simp, by omega, ⟨by simp [Value.ownBlock], by rintro ⟨x, hx, _⟩; simp at hx⟩, fun k e => by simp [Value.ownBlock] at e⟩, fun k => by
    unfold rvO rwO
    simp [Value.ownBlock]⟩
  have hwk : WkAt (cb := cbN) M (visN (w.heap.size + 1)) W0 T (w.heap.size + 1 + 1) O (fun k => k = w.heap.size + 1) p (s, 1048576, []) :=
    ⟨H.out.up hb0, hiv0, c2, f2, fun k hk e => by have := HOL.out k hk; omega, fun e => by have := HOL.out _ e; omega, by omega, by omega, by omega⟩
  have hw : Calls Try.prog 30 #[.pointer (some ⟨T, 0, none⟩), .agg #[.int .i64 ra, .int .i64 rb], .int .i64 0, .int .i64 0, .pointer (some ⟨w.heap.size + 1 + 1, 0, none⟩), .func (.func 31) #[] #[.pointer (some ⟨w.heap.size + 1, 0, none⟩)]] W0 (WkPost M (visN (w.heap.size + 1)) W0 T (w.heap.size + 1 + 1) O (fun k => k = w.heap.size + 1) p (walkF K cbN 7 (s, 1048576, []) (ra, rb) 0 0)) :=
    walk_any hK (visN (w.heap.size + 1)) 7 W0 (s, 1048576, []) _ (ra, rb) 0 0 (by omega) (by omega) (by omega) hwk ⟨hr, by show (0 : Int) ≤ 1048576; omega, by show (1048576 : Int) ≤ 1048576; omega, by show 0 + (1048576 : Int).toNat ≤ 33554432; simp⟩
  have hlen := walkN_len (K := K) 7 (s, 1048576, []) (ra, rb) 0 0 (by show (0 : Int) ≤ 1048576; omega)
  have HW := Lib.hid hw
  have HB0 := Lib.hid hb0
  have HS0 := Lib.hid hs
  have b0 := hx.1
  have b1 := hx.2.1
  have lx := hx.lt
  simp only at b0 b1
  generalize walkF K cbN 7 (s, 1048576, []) (ra, rb) 0 0 = y at *
  obtain ⟨⟨s9, l9, vs⟩, more, er⟩ := y
  have HLEN : Hid (vs.length ≤ 33554432) := Lib.hid (by
    have h1 : -1 ≤ l9 := hlen.1
    have h2 : l9 + (vs.length : Int) ≤ 1048576 + (([] : Vs).length : Nat) := hlen.2.2
    simp at h2
    omega)
  clear hb0 hx hwk c1 c2 f1 f2 hiv0 hw hlen hs hr
  go_upto_region 4 with (go_at_call 30; refine HW.out.mono ?_; rintro e W9 ⟨Ov9, rfl, hwk⟩)
  have HTR : Hid (TrAt M W9 T O s9 p) := Lib.hid hwk.at_.tr
  have HOF : Hid (Off O w W9) := Lib.hid (((Off.of_below HB0.out).mono (fun _ => False.elim)).late hwk.off fun i hl hi => by
    rcases hi with e | e | e
    · exact e
    · omega
    · omega)
  by_cases he : er = 0
  · subst he
    obtain ⟨A, c, hI, hO⟩ := hwk.at_.iv
    have c6 := hI.box
    have l6 := lt_of_cell c6
    have HNR := Lib.hid (nr_of hI)
    have hfr : ∀ k, nrO A vs.length k → w.heap.size ≤ k := fun k e => by
      have h1 : Ov9 k := (hO k).2 (.inr (.inl (by rw [e.2]; rfl)))
      have := HS0.out
      rcases hwk.hO k h1 with e | e <;> omega
    have hf6 : ¬ nrO A vs.length (w.heap.size + 1) := fun e => hI.nB.1 (by rw [e.2]; rfl)
    have HFR := Lib.hid (And.intro hfr hf6)
    simp only at c6
    clear hI hO hwk HW b0 b1 lx hfr hf6
    have HS := Lib.hid (nsort_any HNR.out HLEN.out)
    go_upto_region 7 with (go_at_call 32; refine HS.out.mono ?_; rintro e W10 ⟨rfl, hn10, ho10⟩)
    have c10 := (ho10.cell (p := ⟨w.heap.size + 1, 0, none⟩) l6 HFR.out.2).trans c6
    have l10 := lt_of_cell c10
    have HO10 := Lib.hid ho10
    have HC := Lib.hid (ncompact_any hn10 (by rw [sortL_len]; exact HLEN.out))
    clear c6 l6 HS hn10 ho10
    go_wp2_with (go_at_call 34; refine HC.out.mono ?_; rintro e W11 ⟨rfl, hl11, ho11⟩)
    go_ret2
    have ho := HO10.out.trans ho11
    refine ⟨HTR.out.off ho (fun k e hk => by have := HFR.out.1 k e; have := HOL.out k hk; omega) (fun e => by have := HFR.out.1 _ e; omega), HOF.out.late ho fun i hl e => by have := HFR.out.1 i e; omega, .inr ⟨rfl, A, c, rfl, hl11, fun k e => ?_⟩⟩
    rcases e with ⟨hp, o, rfl⟩ | ⟨x, _, e⟩
    · have hpos : 0 < vs.length := by
        rcases Nat.eq_zero_or_pos vs.length with e | e
        · have := List.eq_nil_of_length_eq_zero e
          subst this
          simp [nodL, sortL, compactUpTo] at hp
        · exact e
      rcases HNR.out with ⟨e, _⟩ | ⟨G, e, _⟩
      · omega
      · injection e with e
        injection e with e1 e2
        subst e1 e2
        exact HFR.out.1 _ ⟨hpos, rfl⟩
    · exact e.elim
  · have hne : (er == 0) = false := by simpa using he
    clear HW b0 b1 lx hwk
    go_wp2
    go_ret2
    exact ⟨HTR.out, HOF.out, .inl ⟨he, rfl⟩⟩
end Go.Proofs.Ytgkdggidgaifhaa
