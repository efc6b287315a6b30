/- radix: Get, Set, Delete and Check of a root that tells a map, over a sink that keeps what it took; the shelf is one. radix's laws: lists of pairs; right, known. radix's laws: known. radix's laws: known. -/
import Derived.Test.YtgkdggidgaifhaaPe
import Derived.Test.YtgkdggidgaifhaaOk
import Derived.Test.YtgkdggidgaifhaaMA
import Derived.Test.YtgkdggidgaifhaaZc
import Derived.Lib.SlBytesConst
namespace Go.Proofs.Ytgkdggidgaifhaa
open Go.RowKit
set_option linter.unusedVariables false
set_option linter.unusedSimpArgs false

/-- What a shelf tells. -/
def shRd (L : List Bytes) : Rdr := fun a => if a.1 < 1 ∨ (L.length : Int) < a.1 then none else if a.2 ≠ 13 + ((L.getD (a.1 - 1).toNat []).length : Int) then none else some (L.getD (a.1 - 1).toNat [])
theorem shRd_sub (L : List Bytes) (b : Bytes) : SubR (shRd L) (shRd (L ++ [b])) := fun a x h => by
  unfold shRd at *
  split at h
  · cases h
  · rename_i h1
    split at h
    · cases h
    · rename_i h2
      have e : (L ++ [b]).getD (a.1 - 1).toNat [] = L.getD (a.1 - 1).toNat [] := by
        rw [List.getD_eq_getElem?_getD, List.getD_eq_getElem?_getD, List.getElem?_append_left (by omega)]
      rw [if_neg (by simp; omega), e, if_neg h2]
      exact h
def shP : PSnk shK where
  In s := s.bad < 0
  rd s := shRd s.L
  cnt s := s.L.length
  room s := s.full
  ez := 7
  ez0 := by decide
  get s a b hs h := by
    unfold shRd at h
    split at h
    · cases h
    · rename_i h1
      split at h
      · cases h
      · rename_i h2
        have e : shK.get s a = ({ s with gets := inc64 s.gets }, b, 0) := by
          simp only [shK]
          rw [if_neg h1, if_neg h2, if_neg (by have : s.bad < 0 := hs; omega)]
          rw [Option.some.inj h]
        rw [e]
        exact ⟨rfl, hs, rfl, rfl, rfl⟩
  put s b hs hr hb h0 := by
    have e : shK.put s b = ({ s with L := s.L ++ [b], full := if 0 < s.full then s.full - 1 else s.full }, ((s.L.length : Int) + 1, 13 + (b.length : Int)), 0) := by
      simp only [shK]
      rw [if_neg h0]
    rw [e]
    refine ⟨rfl, hs, ?_, ?_, shRd_sub s.L b, by simp, rfl⟩
    · unfold shRd
      have e2 : (s.L ++ [b]).getD ((s.L.length : Int) + 1 - 1).toNat [] = b := by
        rw [show ((s.L.length : Int) + 1 - 1).toNat = s.L.length by omega, List.getD_eq_getElem?_getD, List.getElem?_append_right (Nat.le_refl _)]
        simp
      simp only [e2]
      rw [if_neg (by simp; omega), if_neg (by simp)]
    · intro h
      have := congrArg Prod.fst h
      simp at this
      omega
  full s b hs h0 := by
    have e : shK.put s b = (s, (0, 0), 7) := by simp only [shK]; rw [if_pos h0]
    rw [e]
    exact ⟨rfl, rfl⟩
section
variable {σ : Type} {K : SnkF σ} {M : Snk K} (P : PSnk K)
/-- Set or Delete has answered; n blobs at most. -/
structure RtPost (M : Snk K) (w : World) (T : Nat) (O : Nat → Prop) (st : σ × Int) (n : Nat) (G : Rdr → Int × Int → Prop) (Z : σ → Prop) (e : Ending) (w' : World) (O' : Nat → Prop) (st' : σ × Int) (r' : Int × Int) (er : Int) : Prop where
  e : e = .returned (.tuple #[addrV r', .int .i64 er])
  tr : TrAt M w' T O' st'.1 st'.2
  off : Off (OT O T) w w'
  hO : ∀ k, O' k → O k ∨ w.heap.size ≤ k
  z : Z st'.1
  r : (er = 0 ∧ ∃ j, j ≤ n ∧ Aft P j st st' ∧ G (P.rd st'.1) r') ∨ (er = P.ez ∧ ∃ j, j < n ∧ Aft P j st st' ∧ P.room st'.1 = 0)
theorem set_tells (hK : K.Good) {key : Nat} (hk : key < 16777216) {v : Bytes} (hv : v.length ≤ 256) {s : σ} {p : Int} {r : Int × Int} {m : Mp} (h : TellsR (P.rd s) r m) (hi : P.In s) (hr : K.Rdy s 7) :
    Outc P 6 (s, p) (setF K 7 (s, p) r 0 0 key v) fun rd' r' => Tells rd' 0 0 r' (upd m key (some v)) ∧ (m key = some v → r' = r) := by
  rcases h with ⟨rfl, h⟩ | h
  · unfold setF
    rw [if_pos rfl]
    exact (set_new hi (hK.mono _ _ _ hr (by omega)) hk hv (by omega) (front0 hk)).mono (by omega) fun rd' r' _ hg => ⟨hg h, fun e => by rw [h] at e; cases e⟩
  · exact set_is hK hk hv h 7 s p (by omega) (by omega) (front0 hk) hi rfl hr
theorem cut_tells (hK : K.Good) {key : Nat} (hk : key < 16777216) {s : σ} {p : Int} {r : Int × Int} {m : Mp} (h : TellsR (P.rd s) r m) (hi : P.In s) (hr : K.Rdy s 7) :
    Outc P 7 (s, p) (cutF K 7 (s, p) r 0 0 key) fun rd' r' => TellsR rd' r' (upd m key none) ∧ (m key = none → r' = r) := by
  rcases h with ⟨rfl, h⟩ | h
  · unfold cutF
    rw [if_pos rfl]
    refine Outc.same (Aft.refl hi) ⟨.inl ⟨rfl, fun k => ?_⟩, fun _ => rfl⟩
    simp only [upd]
    split
    · rfl
    · exact h k
  · exact cut_is hK hk h 7 s p (by omega) (by omega) hi rfl hr
theorem set_law (hK : K.Good) {w : World} {T : Nat} {O : Nat → Prop} {s : σ} {p : Int} (h : TrAt M w T O s p) (hi : P.In s) {n : Nat} (hr : K.Rdy s (n + 7)) {r : Int × Int} {m : Mp} (hm : TellsR (P.rd s) r m) {key : Nat} (hk : key < 16777216) {v : Value} {L : Bytes} (hv : SlB w v L) (hL : L.length ≤ 256) (hvo : VIn (Out O T) v) :
    Calls Try.prog 22 #[.pointer (some ⟨T, 0, none⟩), addrV r, .int .i64 (key : Nat), v] w fun e w' => ∃ O' st' r' er, RtPost P M w T O (s, p) 6 (fun rd' r' => Tells rd' 0 0 r' (upd m key (some L)) ∧ (m key = some L → r' = r)) (fun s' => K.Rdy s' n) e w' O' st' r' er := by
  have h1 := set_tells P hK hk hL (p := p) hm hi (hK.mono _ _ _ hr (by omega))
  have h2 := (setF_good hK hk hL 7 0 s p r 0 n (by omega) (by omega) hr).1
  refine (set1_any hK h (hK.mono _ _ _ hr (by omega)) r hk hv hL hvo).mono ?_
  rintro e w' ⟨O', he, ht, ho, hO⟩
  generalize setF K 7 (s, p) r 0 0 key L = y at *
  obtain ⟨st', r', er⟩ := y
  simp only [outY] at he ht
  rcases h1 with ⟨j, h3, h4, h5, h6⟩ | ⟨j, h3, h4, h5, h6⟩
  · simp only at h4 h5 h6 h2
    rw [if_pos h5] at he
    exact ⟨O', st', r', er, ⟨he, ht, ho, hO, h2, .inl ⟨h5, j, h3, h4, h6⟩⟩⟩
  · simp only at h4 h5 h6 h2
    rw [if_neg (by rw [h5]; exact P.ez0)] at he
    exact ⟨O', st', _, er, ⟨he, ht, ho, hO, h2, .inr ⟨h5, j, h3, h4, h6⟩⟩⟩
theorem del_law (hK : K.Good) {w : World} {T : Nat} {O : Nat → Prop} {s : σ} {p : Int} (h : TrAt M w T O s p) (hi : P.In s) {n : Nat} (hr : K.Rdy s (n + 7)) {r : Int × Int} {m : Mp} (hm : TellsR (P.rd s) r m) {key : Nat} (hk : key < 16777216) :
    Calls Try.prog 24 #[.pointer (some ⟨T, 0, none⟩), addrV r, .int .i64 (key : Nat)] w fun e w' => ∃ O' st' r' er, RtPost P M w T O (s, p) 7 (fun rd' r' => TellsR rd' r' (upd m key none) ∧ (m key = none → r' = r)) (fun s' => K.Rdy s' n) e w' O' st' r' er := by
  have h1 := cut_tells P hK hk (p := p) hm hi (hK.mono _ _ _ hr (by omega))
  have h2 := (cutF_good hK hk 7 0 s p r 0 n (by omega) (by omega) hr).1
  refine (delete_any hK h (hK.mono _ _ _ hr (by omega)) r hk).mono ?_
  rintro e w' ⟨O', he, ht, ho, hO⟩
  generalize cutF K 7 (s, p) r 0 0 key = y at *
  obtain ⟨st', r', er⟩ := y
  simp only [outY] at he ht
  rcases h1 with ⟨j, h3, h4, h5, h6⟩ | ⟨j, h3, h4, h5, h6⟩
  · simp only at h4 h5 h6 h2
    rw [if_pos h5] at he
    exact ⟨O', st', r', er, ⟨he, ht, ho, hO, h2, .inl ⟨h5, j, h3, h4, h6⟩⟩⟩
  · simp only at h4 h5 h6 h2
    rw [if_neg (by rw [h5]; exact P.ez0)] at he
    exact ⟨O', st', _, er, ⟨he, ht, ho, hO, h2, .inr ⟨h5, j, h3, h4, h6⟩⟩⟩
/-- Get has answered. -/
def GlPost (M : Snk K) (w : World) (T : Nat) (O : Nat → Prop) (s : σ) (p : Int) (mk : Option Bytes) (e : Ending) (w' : World) : Prop :=
  ∃ v s', e = .returned (.tuple #[v, .bool mk.isSome, .int .i64 0]) ∧ TrAt M w' T O s' p ∧ Off O w w' ∧ SlB w' v (mk.getD []) ∧ (∀ b o n c, v = .slice (some ⟨b, o, none⟩) n c → w.heap.size ≤ b) ∧ Aft P 0 (s, p) (s', p) ∧ ∀ n, K.Rdy s n → K.Rdy s' n
theorem lookF_rdy (hK : K.Good) : ∀ (n : Nat) (s : σ) (r : Int × Int) (l q key k : Nat), K.Rdy s k → K.Rdy (lookF K n s r l q key).1 k
  | 0, s, r, l, q, key, k, h => h
  | n + 1, s, r, l, q, key, k, h => by
    unfold lookF
    split
    · exact h
    · cases hy : tgetF K s r l q with
      | mk s1 oe =>
        have hs1 : s1 = (K.get s r).1 := by rw [← tget_fst (K := K) (s := s) (r := r) (l := l) (q := q), hy]
        have h1 : K.Rdy s1 k := by rw [hs1]; exact hK.getR _ _ _ h
        obtain ⟨ox, er⟩ := oe
        cases ox with
        | none => exact h1
        | some x =>
          simp only
          split
          · split <;> exact h1
          · split
            · exact h1
            · split
              · exact h1
              · exact lookF_rdy hK n s1 _ _ _ _ k h1
theorem get_law (hK : K.Good) {w : World} {T : Nat} {O : Nat → Prop} {s : σ} {p : Int} (h : TrAt M w T O s p) (hi : P.In s) {r : Int × Int} {m : Mp} (hm : TellsR (P.rd s) r m) {key : Nat} (hk : key < 16777216) :
    Calls Try.prog 23 #[.pointer (some ⟨T, 0, none⟩), addrV r, .int .i64 (key : Nat)] w (GlPost P M w T O s p (m key)) := by
  have h1 : ∃ s', lookF K 7 s r 0 0 key = (s', (m key).getD [], (m key).isSome, 0) ∧ Aft P 0 (s, p) (s', p) := by
    rcases hm with ⟨rfl, hm⟩ | hm
    · refine ⟨s, ?_, Aft.refl hi⟩
      unfold lookF
      rw [if_pos rfl, hm]
      rfl
    · obtain ⟨s', e, ha⟩ := look_is hm 7 s key (by omega) hi rfl
      exact ⟨s', e, ha p⟩
  have h2 := fun n => lookF_rdy hK 7 s r 0 0 key n
  obtain ⟨s', e1, ha⟩ := h1
  refine (look_any h r hk).mono ?_
  rintro e w' ⟨v, he, ht, ho, hs, hb⟩
  rw [e1] at he ht hs h2
  exact ⟨v, s', he, ht, ho, hs, hb, ha, h2⟩
theorem foldU_chk : ∀ (ps : Ps) (a : Int), foldU chkF a ps = (incN a ps.length, true)
  | [], a => rfl
  | (k, v) :: ps, a => by
    have ih := foldU_chk ps (inc64 a)
    have e : foldU chkF a ((k, v) :: ps) = foldU chkF (inc64 a) ps := rfl
    rw [e, ih, List.length_cons, ← incN_one a, incN_add, Nat.add_comm]
  where incN_one (a : Int) : incN a 1 = inc64 a := rfl
theorem incN_small : ∀ (n : Nat) (a : Int), 0 ≤ a → a + n < 9223372036854775808 → incN a n = a + n
  | 0, a, _, _ => by simp [incN]
  | n + 1, a, h1, h2 => by
    rw [incN, incN_small n a h1 (by omega)]
    unfold inc64
    have : wrap64 (a + n + 1) = a + n + 1 := by unfold wrap64; omega
    rw [this]; omega
theorem walkF_rdy (hK : K.Good) {α : Type} (cb : α → Int × Int → RN → α × Bool) : ∀ (n : Nat) (st : WkSt σ α) (r : Int × Int) (l q k : Nat), K.Rdy st.1 k → K.Rdy (walkF K cb n st r l q).1.1 k
  | 0, st, r, l, q, k, h => h
  | n + 1, (s, left, a), r, l, q, k, h => by
    unfold walkF
    split
    · exact h
    · split
      · exact h
      · cases hy : tgetF K s r l q with
        | mk s1 oe =>
          have hs1 : s1 = (K.get s r).1 := by rw [← tget_fst (K := K) (s := s) (r := r) (l := l) (q := q), hy]
          have h1 : K.Rdy s1 k := by rw [hs1]; exact hK.getR _ _ _ h
          obtain ⟨ox, er⟩ := oe
          cases ox with
          | none => exact h1
          | some x =>
            simp only
            split
            · exact h1
            · have hkd : ∀ (m i : Nat) (st : WkSt σ α), K.Rdy st.1 k → K.Rdy (kidsF (walkF K cb n) x m i st).1.1 k := by
                intro m
                induction m with
                | zero => intro i st h; exact h
                | succ m ih =>
                  intro i st h
                  unfold kidsF
                  split
                  · exact ih _ _ h
                  · have h2 := walkF_rdy hK cb n st (x.kids i) (x.level + 1) (x.prefix_ * 16 + i) k h
                    generalize walkF K cb n st (x.kids i) (x.level + 1) (x.prefix_ * 16 + i) = y at h2
                    obtain ⟨st', more, e⟩ := y
                    simp only
                    split
                    · exact ih _ _ h2
                    · exact h2
              exact hkd 16 0 _ h1
/-- A map's pairs, in order. -/
theorem tells_list {s : σ} {r : Int × Int} {m : Mp} (hm : TellsR (P.rd s) r m) (hi : P.In s) : ∃ ps, Lst m ps ∧ (ps = [] ↔ r = (0, 0)) ∧ ∀ {α : Type} (f : α → Nat → Bytes → α × Bool) (a : α), ps.length ≤ 149796 →
    ∃ s' left', walkF K (pairsC f) 7 (s, 1048576, a) r 0 0 = ((s', left', (foldU f a ps).1), (foldU f a ps).2, 0) ∧ Like P s s' := by
  rcases hm with ⟨rfl, h⟩ | h
  · refine ⟨[], ⟨.nil, fun k v => by rw [h]; simp⟩, by simp, fun f a _ => ⟨s, 1048576, ?_, Like.refl hi⟩⟩
    unfold walkF
    rw [if_pos rfl]
    rfl
  · obtain ⟨ps, c, hw⟩ := walk_is P h
    refine ⟨ps, hw.lst, ⟨fun e => absurd e hw.ne, fun e => absurd e h.ne0⟩, fun f a hle => ?_⟩
    obtain ⟨s', left', h1, h2, _⟩ := hw.go f 7 s 1048576 a (by omega) hi rfl (by have := hw.le; omega)
    exact ⟨s', left', h1, h2⟩
end
end Go.Proofs.Ytgkdggidgaifhaa
namespace Go.Proofs.Ytgkdggidgaifhaa
open Go.RowKit
set_option linter.unusedVariables false
set_option linter.unusedSimpArgs false

/-! ### a map's pairs are one list -/
theorem up_uniq : ∀ {ps qs : Ps}, ps.Pairwise (fun a b => a.1 < b.1) → qs.Pairwise (fun a b => a.1 < b.1) → (∀ x, x ∈ ps ↔ x ∈ qs) → ps = qs
  | [], [], _, _, _ => rfl
  | [], q :: qs, _, _, h => by have := (h q).2 (List.mem_cons_self ..); cases this
  | p :: ps, [], _, _, h => by have := (h p).1 (List.mem_cons_self ..); cases this
  | p :: ps, q :: qs, h1, h2, h => by
    have a1 := List.pairwise_cons.1 h1
    have a2 := List.pairwise_cons.1 h2
    have e : p = q := by
      rcases List.mem_cons.1 ((h p).1 (List.mem_cons_self ..)) with e | e
      · exact e
      · rcases List.mem_cons.1 ((h q).2 (List.mem_cons_self ..)) with e2 | e2
        · exact e2.symm
        · have := a2.1 p e
          have := a1.1 q e2
          omega
    subst e
    refine congrArg _ (up_uniq a1.2 a2.2 fun x => ⟨fun hx => ?_, fun hx => ?_⟩)
    · rcases List.mem_cons.1 ((h x).1 (List.mem_cons_of_mem _ hx)) with e | e
      · have := a1.1 x hx
        rw [e] at this
        omega
      · exact e
    · rcases List.mem_cons.1 ((h x).2 (List.mem_cons_of_mem _ hx)) with e | e
      · have := a2.1 x hx
        rw [e] at this
        omega
      · exact e
theorem Lst.uniq {m : Mp} {ps qs : Ps} (h : Lst m ps) (k : Lst m qs) : ps = qs := up_uniq h.up k.up fun x => by
  obtain ⟨a, b⟩ := x
  rw [h.mem, k.mem]
theorem Lst.cast {m m' : Mp} {ps : Ps} (h : Lst m ps) (e : ∀ k, m' k = m k) : Lst m' ps := ⟨h.up, fun k v => by rw [h.mem, e]⟩
def insP (k : Nat) (v : Bytes) : Ps → Ps
  | [] => [(k, v)]
  | (k', v') :: ps => if k < k' then (k, v) :: (k', v') :: ps else if k = k' then (k, v) :: ps else (k', v') :: insP k v ps
theorem insP_mem (k : Nat) (v : Bytes) : ∀ (ps : Ps), ps.Pairwise (fun a b => a.1 < b.1) → ∀ x, x ∈ insP k v ps ↔ x = (k, v) ∨ (x ∈ ps ∧ x.1 ≠ k)
  | [], _, x => by simp [insP]
  | (k', v') :: ps, h, x => by
    have a := List.pairwise_cons.1 h
    unfold insP
    split
    · rename_i h1
      rw [List.mem_cons]
      refine or_congr Iff.rfl ⟨fun hx => ⟨hx, ?_⟩, fun hx => hx.1⟩
      rcases List.mem_cons.1 hx with e | e
      · rw [e]; show k' ≠ k; omega
      · have := a.1 x e
        simp only at this
        omega
    · split
      · rename_i h1 h2
        rw [List.mem_cons]
        refine or_congr Iff.rfl ⟨fun hx => ⟨List.mem_cons_of_mem _ hx, ?_⟩, fun hx => ?_⟩
        · have := a.1 x hx
          simp only at this
          omega
        · rcases List.mem_cons.1 hx.1 with e | e
          · rw [e] at hx; exact absurd h2.symm hx.2
          · exact e
      · rename_i h1 h2
        rw [List.mem_cons, insP_mem k v ps a.2 x, List.mem_cons]
        constructor
        · rintro (e | e | e)
          · exact .inr ⟨.inl e, by rw [e]; exact fun e => h2 e.symm⟩
          · exact .inl e
          · exact .inr ⟨.inr e.1, e.2⟩
        · rintro (e | ⟨e | e, e2⟩)
          · exact .inr (.inl e)
          · exact .inl e
          · exact .inr (.inr ⟨e, e2⟩)
theorem insP_up (k : Nat) (v : Bytes) : ∀ (ps : Ps), ps.Pairwise (fun a b => a.1 < b.1) → (insP k v ps).Pairwise (fun a b => a.1 < b.1)
  | [], _ => List.pairwise_singleton _ _
  | (k', v') :: ps, h => by
    have a := List.pairwise_cons.1 h
    unfold insP
    split
    · rename_i h1
      refine List.pairwise_cons.2 ⟨fun x hx => ?_, h⟩
      rcases List.mem_cons.1 hx with e | e
      · rw [e]; exact h1
      · have := a.1 x e
        simp only at this ⊢
        omega
    · split
      · rename_i h1 h2
        exact List.pairwise_cons.2 ⟨fun x hx => by have := a.1 x hx; simp only at this ⊢; omega, a.2⟩
      · rename_i h1 h2
        refine List.pairwise_cons.2 ⟨fun x hx => ?_, insP_up k v ps a.2⟩
        rcases (insP_mem k v ps a.2 x).1 hx with e | e
        · rw [e]; show k' < k; omega
        · exact a.1 x e.1
theorem insP_len (k : Nat) (v : Bytes) : ∀ (ps : Ps), ps.Pairwise (fun a b => a.1 < b.1) → (insP k v ps).length = if ∃ x ∈ ps, x.1 = k then ps.length else ps.length + 1
  | [], _ => by simp [insP]
  | (k', v') :: ps, h => by
    have a := List.pairwise_cons.1 h
    have ih := insP_len k v ps a.2
    unfold insP
    split
    · rename_i h1
      rw [if_neg]
      · simp
      · rintro ⟨x, hx, e⟩
        rcases List.mem_cons.1 hx with e2 | e2
        · rw [e2] at e; simp only at e; omega
        · have := a.1 x e2
          simp only at this
          omega
    · split
      · rename_i h1 h2
        rw [if_pos ⟨(k', v'), List.mem_cons_self .., h2.symm⟩]
        simp
      · rename_i h1 h2
        rw [List.length_cons, ih, List.length_cons]
        have e : (∃ x ∈ (k', v') :: ps, x.1 = k) ↔ ∃ x ∈ ps, x.1 = k := by
          constructor
          · rintro ⟨x, hx, e⟩
            rcases List.mem_cons.1 hx with e2 | e2
            · rw [e2] at e; exact absurd e.symm h2
            · exact ⟨x, e2, e⟩
          · rintro ⟨x, hx, e⟩; exact ⟨x, List.mem_cons_of_mem _ hx, e⟩
        by_cases hc : ∃ x ∈ ps, x.1 = k
        · rw [if_pos hc, if_pos (e.2 hc)]
        · rw [if_neg hc, if_neg (fun h => hc (e.1 h))]
theorem Lst.set {m : Mp} {ps : Ps} (h : Lst m ps) (k : Nat) (v : Bytes) : Lst (upd m k (some v)) (insP k v ps) := ⟨insP_up k v ps h.up, fun a b => by
  rw [insP_mem k v ps h.up]
  by_cases e : a = k
  · subst e
    rw [upd_same]
    constructor
    · rintro (e | e)
      · cases e; rfl
      · exact absurd rfl e.2
    · intro e; cases e; exact .inl rfl
  · rw [upd_other _ _ _ e, h.mem]
    constructor
    · rintro (e2 | e2)
      · cases e2; exact absurd rfl e
      · exact e2.1
    · intro e2; exact .inr ⟨e2, e⟩⟩
theorem Lst.set_len {m : Mp} {ps : Ps} (h : Lst m ps) (k : Nat) (v : Bytes) : (insP k v ps).length = if (m k).isSome then ps.length else ps.length + 1 := by
  rw [insP_len k v ps h.up]
  have e : (∃ x ∈ ps, x.1 = k) ↔ (m k).isSome = true := by
    constructor
    · rintro ⟨⟨a, b⟩, hx, e⟩
      have := (h.mem a b).1 hx
      simp only at e
      rw [← e, this]; rfl
    · intro hs
      obtain ⟨v, hv⟩ := Option.isSome_iff_exists.1 hs
      exact ⟨(k, v), (h.mem k v).2 hv, rfl⟩
  by_cases hc : ∃ x ∈ ps, x.1 = k
  · rw [if_pos hc, if_pos (e.1 hc)]
  · rw [if_neg hc, if_neg (fun h => hc (e.2 h))]
theorem Lst.nil : Lst (fun _ => none) [] := ⟨.nil, fun k v => by simp⟩
theorem filter_up {ps : Ps} (p : Nat × Bytes → Bool) (h : ps.Pairwise (fun a b => a.1 < b.1)) : (ps.filter p).Pairwise (fun a b => a.1 < b.1) := h.sublist List.filter_sublist
theorem Lst.del {m : Mp} {ps : Ps} (h : Lst m ps) (k : Nat) : Lst (upd m k none) (ps.filter fun x => decide (x.1 ≠ k)) := ⟨filter_up _ h.up, fun a b => by
  rw [List.mem_filter, h.mem]
  by_cases e : a = k
  · subst e
    rw [upd_same]
    simp
  · rw [upd_other _ _ _ e]
    simp [e]⟩

/-! ### arguments: pairs -/
structure PArg where
  key : Int
  A : Option Addr
  n : Nat
  c : Nat
  L : Bytes
def PArg.v (b : PArg) : Value := .slice b.A b.n b.c
def PArg.In (w : World) (b : PArg) : Prop := SBy w b.A b.n b.L ∧ b.n ≤ b.c ∧ -9223372036854775808 ≤ b.key ∧ b.key ≤ 9223372036854775807
def Prs (w : World) (A : Option Addr) (n : Nat) (b : Nat → PArg) : Prop := 0 < n → ∃ g o, A = some ⟨g, o, none⟩ ∧ g < w.heap.size ∧ ∀ k, k < n → w.cell? ⟨g, o + k * 2, none⟩ = some (.int .i64 (b k).key) ∧ w.cell? ⟨g, o + k * 2 + 1, none⟩ = some (b k).v ∧ (b k).In w
theorem Prs.up {w w' : World} {A : Option Addr} {n : Nat} {b : Nat → PArg} (h : Prs w A n b) (hb : Below w.heap.size w w') : Prs w' A n b := fun hp => by
  obtain ⟨g, o, e, hg, hc⟩ := h hp
  exact ⟨g, o, e, Nat.lt_of_lt_of_le hg hb.size, fun k hk => ⟨(hb.cell (p := ⟨g, o + k * 2, none⟩) hg).trans (hc k hk).1, (hb.cell (p := ⟨g, o + k * 2 + 1, none⟩) hg).trans (hc k hk).2.1, (hc k hk).2.2.1.up hb, (hc k hk).2.2.2⟩⟩
def keyOk (k : Int) : Prop := 0 ≤ k ∧ k < 16777216
instance (k : Int) : Decidable (keyOk k) := inferInstanceAs (Decidable (0 ≤ k ∧ k < 16777216))
theorem right9_any (w : World) (key : Int) : Calls Try.prog 21 #[.int .i64 key] w fun e w' => e = .returned (.bool (decide (keyOk key))) ∧ w' = w := by
  by_cases h1 : 0 ≤ key
  · by_cases h2 : key < 16777216
    · rw [show decide (keyOk key) = true from decide_eq_true ⟨h1, h2⟩]
      go_enter Try.func21, Try.ntmps21
      go_wp2
      go_ret
      exact ⟨by simp [h1, h2], rfl⟩
    · rw [show decide (keyOk key) = false from decide_eq_false fun h => h2 h.2]
      go_enter Try.func21, Try.ntmps21
      go_wp2
      go_ret
      exact ⟨by simp [h1, h2], rfl⟩
  · rw [show decide (keyOk key) = false from decide_eq_false fun h => h1 h.1]
    go_enter Try.func21, Try.ntmps21
    go_wp2
    go_ret
    exact ⟨rfl, rfl⟩
/-- Over a shelf: a set that has room. -/
theorem Prs.sl {w : World} {b : PArg} (h : b.In w) : SlB w b.v b.L := ⟨_, _, _, rfl, h.2.1, h.1⟩
end Go.Proofs.Ytgkdggidgaifhaa
namespace Go.Proofs.Ytgkdggidgaifhaa
open Go.RowKit
set_option linter.unusedVariables false
set_option linter.unusedSimpArgs false

/-- A tree over a shelf, begun in a law: all its blocks are the law's own. -/
structure ShL (W w : World) (S T : Nat) (O : Nat → Prop) (st : ShS × Int) : Prop where
  tr : TrAt (shM S) w T O st.1 st.2
  hO : ∀ k, O k → W.heap.size ≤ k
  hT : W.heap.size ≤ T
  inn : shP.In st.1
  bel : Below W.heap.size W w
section
variable {W w w' : World} {S T : Nat} {O O' : Nat → Prop} {st st' : ShS × Int}
theorem ShL.up (h : ShL W w S T O st) (hb : Below w.heap.size w w') : ShL W w' S T O st := ⟨h.tr.up hb, h.hO, h.hT, h.inn, h.bel.trans (hb.mono h.bel.size)⟩
theorem ShL.out (h : ShL W w S T O st) {v : Value} (hv : VIn (fun b => b < W.heap.size) v) : VIn (Out O T) v := hv.mono fun b hb => ⟨fun e => by have := h.hO b e; omega, fun e => by have := h.hT; omega⟩
theorem Off.belowW {P : Nat → Prop} (hb : Below W.heap.size W w) (ho : Off P w w') (hP : ∀ k, P k → W.heap.size ≤ k) : Below W.heap.size W w' := hb.trans (ho.below hP hb.size)
end
/-- Nothing that the law was given is changed. -/
structure SetOk (W w w' : World) (S T : Nat) (O O' : Nat → Prop) (st st' : ShS × Int) (n N : Nat) (G : Rdr → Int × Int → Prop) (r' : Int × Int) (e : Ending) : Prop where
  e : e = .returned (.tuple #[.agg #[.int .i64 r'.1, .int .i64 r'.2], .int .i64 0])
  l : ShL W w' S T O' st'
  off : Off (OT O T) w w'
  hO : ∀ k, O' k → O k ∨ w.heap.size ≤ k
  rdy : shK.Rdy st'.1 n
  aft : ∃ j, j ≤ N ∧ Aft shP j st st'
  full : st'.1.full < 0
  g : G (shRd st'.1.L) r'
section
variable {W w w' : World} {S T : Nat} {O : Nat → Prop} {st : ShS × Int} {n : Nat} {r : Int × Int} {m : Mp}
theorem rt_ok {N : Nat} {G : Rdr → Int × Int → Prop} {e : Ending} {O' : Nat → Prop} {st' : ShS × Int} {r' : Int × Int} {er : Int} (h : ShL W w S T O st) (hf : st.1.full < 0) (k : RtPost shP (shM S) w T O st N G (fun s' => shK.Rdy s' n) e w' O' st' r' er) : SetOk W w w' S T O O' st st' n N G r' e := by
  rcases k.r with ⟨h0, j, hj, ha, hg⟩ | ⟨h0, j, hj, ha, hz⟩
  · have hfull : st'.1.full < 0 := by have := ha.room; rw [if_pos (show shP.room st.1 < 0 from hf)] at this; rw [show st'.1.full = st.1.full from this]; exact hf
    have hO2 : ∀ k', O' k' → W.heap.size ≤ k' := fun k' hk => (k.hO k' hk).elim (h.hO k') (fun e => Nat.le_trans h.bel.size e)
    exact ⟨by rw [k.e, h0]; rfl, ⟨k.tr, hO2, h.hT, ha.inn, h.bel.trans (k.off.below (fun b hb => hb.elim (h.hO b) (fun e => e ▸ h.hT)) h.bel.size)⟩, k.off, k.hO, k.z, ⟨j, hj, ha⟩, hfull, hg⟩
  · exfalso
    have := ha.room
    rw [if_pos (show shP.room st.1 < 0 from hf)] at this
    have h2 : st.1.full = 0 := this.symm.trans hz
    omega
theorem shl_set (h : ShL W w S T O st) (hr : shK.Rdy st.1 (n + 7)) (hf : st.1.full < 0) (hm : TellsR (shRd st.1.L) r m) {key : Nat} (hk : key < 16777216) {v : Value} {L : Bytes} (hv : SlB w v L) (hL : L.length ≤ 256) (hvo : VIn (Out O T) v) :
    Calls Try.prog 22 #[.pointer (some ⟨T, 0, none⟩), .agg #[.int .i64 r.1, .int .i64 r.2], .int .i64 (key : Nat), v] w fun e w' => ∃ O' st' r', SetOk W w w' S T O O' st st' n 6 (fun rd' r' => Tells rd' 0 0 r' (upd m key (some L)) ∧ (m key = some L → r' = r)) r' e :=
  (set_law (M := shM S) shP shK_good h.tr h.inn hr hm hk hv hL hvo).mono fun e w' ⟨O', st', r', er, k⟩ => ⟨O', st', r', rt_ok h hf k⟩
theorem shl_del (h : ShL W w S T O st) (hr : shK.Rdy st.1 (n + 7)) (hf : st.1.full < 0) (hm : TellsR (shRd st.1.L) r m) {key : Nat} (hk : key < 16777216) :
    Calls Try.prog 24 #[.pointer (some ⟨T, 0, none⟩), .agg #[.int .i64 r.1, .int .i64 r.2], .int .i64 (key : Nat)] w fun e w' => ∃ O' st' r', SetOk W w w' S T O O' st st' n 7 (fun rd' r' => TellsR rd' r' (upd m key none) ∧ (m key = none → r' = r)) r' e :=
  (del_law (M := shM S) shP shK_good h.tr h.inn hr hm hk).mono fun e w' ⟨O', st', r', er, k⟩ => ⟨O', st', r', rt_ok h hf k⟩
/-- Reads alone have been made. -/
structure GetOk (W w w' : World) (S T : Nat) (O : Nat → Prop) (st : ShS × Int) (s' : ShS) : Prop where
  l : ShL W w' S T O (s', st.2)
  off : Off O w w'
  aft : Aft shP 0 st (s', st.2)
  rdy : ∀ n, shK.Rdy st.1 n → shK.Rdy s' n
theorem get_ok {s' : ShS} (h : ShL W w S T O st) (ht : TrAt (shM S) w' T O s' st.2) (ho : Off O w w') (ha : Aft shP 0 st (s', st.2)) (hr : ∀ n, shK.Rdy st.1 n → shK.Rdy s' n) : GetOk W w w' S T O st s' :=
  ⟨⟨ht, h.hO, h.hT, ha.inn, h.bel.trans (ho.below h.hO h.bel.size)⟩, ho, ha, hr⟩
def GlOk (W w : World) (S T : Nat) (O : Nat → Prop) (st : ShS × Int) (mk : Option Bytes) (e : Ending) (w' : World) : Prop :=
  ∃ v s', e = .returned (.tuple #[v, .bool mk.isSome, .int .i64 0]) ∧ GetOk W w w' S T O st s' ∧ SlB w' v (mk.getD []) ∧ VIn (Out O T) v
theorem shl_get (h : ShL W w S T O st) (hm : TellsR (shRd st.1.L) r m) {key : Nat} (hk : key < 16777216) :
    Calls Try.prog 23 #[.pointer (some ⟨T, 0, none⟩), .agg #[.int .i64 r.1, .int .i64 r.2], .int .i64 (key : Nat)] w (GlOk W w S T O st (m key)) :=
  (get_law (M := shM S) shP shK_good h.tr h.inn hm hk).mono fun e w' ⟨v, s', he, ht, ho, hs, hb, ha, hr⟩ => ⟨v, s', he, get_ok h ht ho ha hr, hs, fun b o n c e _ => h.tr.outOf (hb b o n c e)⟩
def ChOk (W w : World) (S T : Nat) (O : Nat → Prop) (st : ShS × Int) (n : Nat) (e : Ending) (w' : World) : Prop :=
  ∃ s', e = .returned (.tuple #[.int .i64 (n : Nat), .int .i64 0]) ∧ GetOk W w w' S T O st s'
theorem shl_check (h : ShL W w S T O st) (hr : shK.Rdy st.1 0) (hm : TellsR (shRd st.1.L) r m) {ps : Ps} (hp : Lst m ps) (hl : ps.length ≤ 149796) :
    Calls Try.prog 25 #[.pointer (some ⟨T, 0, none⟩), .agg #[.int .i64 r.1, .int .i64 r.2]] w (ChOk W w S T O st ps.length) := by
  obtain ⟨ps', h1, h2, h3⟩ := tells_list shP hm h.inn
  obtain rfl := hp.uniq h1
  obtain ⟨s', left', h4, h5⟩ := h3 chkF 0 hl
  have h6 := fun n => walkF_rdy (K := shK) shK_good (pairsC chkF) 7 (st.1, 1048576, 0) r 0 0 n
  refine (check_any (M := shM S) shK_good h.tr hr r).mono fun e w' ⟨he, ht, ho⟩ => ?_
  rw [h4] at he ht h6
  rw [foldU_chk] at he
  simp only at he
  rw [incN_small _ _ (by omega) (by omega)] at he
  exact ⟨s', by rw [he]; simp, get_ok h ht ho (h5.aft st.2) h6⟩
end
/-- The bytes of a literal of one byte. -/
theorem lit1 (w : World) (x : Int) (hx : 0 ≤ x ∧ x ≤ 255) : SlB (w.alloc (.cells #[.int .u8 x] 5 (1, 2))) (.slice (some ⟨w.heap.size, 0, none⟩) 1 1) [b8 x.toNat] := by
  refine ⟨_, _, _, rfl, Nat.le_refl _, rfl, fun _ => ⟨_, _, rfl, by simp, fun k hk => ?_⟩⟩
  obtain rfl : k = 0 := by omega
  rw [cell_of_row _ _ _ _ _ _ (heap_alloc_new w _)]
  have : (at8 [b8 x.toNat] 0 : Nat) = x.toNat := by
    show (b8 x.toNat).toNat = x.toNat
    exact b8_lt (by omega)
  rw [this]
  simp
  omega
end Go.Proofs.Ytgkdggidgaifhaa
namespace Go.Proofs.Ytgkdggidgaifhaa
open Go.RowKit
set_option linter.unusedVariables false
set_option linter.unusedSimpArgs false

theorem shl_new {W w w1 w2 : World} {e1 e2 : Ending} (hb : Below W.heap.size W w) (h1 : ShNew w e1 w1) (h2 : TrNew (shM w.heap.size) w1 (· = w.heap.size) sh0 e2 w2) : ShL W w2 w.heap.size w1.heap.size (· = w.heap.size) (sh0, 0) := by
  have s0 := hb.size
  obtain ⟨_, b1, s1, _⟩ := h1
  obtain ⟨_, b2, s2, ht⟩ := h2
  have s3 := b1.size
  exact ⟨ht, fun k e => by rw [e]; exact s0, by omega, by show (-1 : Int) < 0; omega, (hb.trans (b1.mono s0)).trans (b2.mono (by omega))⟩
def mp1 : Mp := upd (fun _ => none) 5 (some [b8 120])
def mp2 : Mp := upd mp1 70000 (some [b8 121])
theorem mp2_lst : Lst mp2 [(5, [b8 120]), (70000, [b8 121])] := by
  have h1 : Lst mp1 [(5, [b8 120])] := Lst.nil.set 5 [b8 120]
  exact h1.set 70000 [b8 121]
/-- A literal of one byte is no tree's. -/
theorem lit1_out {W w : World} {S T : Nat} {O : Nat → Prop} {st : ShS × Int} (h : ShL W w S T O st) : VIn (Out O T) (.slice (some ⟨w.heap.size, 0, none⟩) 1 1) := fun b o n c e _ => by
  cases e
  exact h.tr.outOf (Nat.le_refl _)
theorem shl_setlit {W w : World} {S T : Nat} {O : Nat → Prop} {st : ShS × Int} (h : ShL W w S T O st) {n : Nat} (hr : shK.Rdy st.1 (n + 7)) (hf : st.1.full < 0) {r : Int × Int} {m : Mp} (hm : TellsR (shRd st.1.L) r m) {key : Nat} (hk : key < 16777216) {kI : Int} (hkI : kI = (key : Nat)) (x : Int) (hx : 0 ≤ x ∧ x ≤ 255) :
    Calls Try.prog 22 #[.pointer (some ⟨T, 0, none⟩), .agg #[.int .i64 r.1, .int .i64 r.2], .int .i64 kI, .slice (some ⟨w.heap.size, 0, none⟩) 1 1] (w.alloc (.cells #[.int .u8 x] 5 (1, 2))) fun e w' => ∃ O' st' r', SetOk W (w.alloc (.cells #[.int .u8 x] 5 (1, 2))) w' S T O O' st st' n 6 (fun rd' r' => Tells rd' 0 0 r' (upd m key (some [b8 x.toNat])) ∧ (m key = some [b8 x.toNat] → r' = r)) r' e := by
  subst hkI
  exact shl_set (h.up ((Below.refl _ _).alloc (Nat.le_refl _) _)) hr hf hm hk (lit1 w x hx) (by simp) (lit1_out h)
theorem shl_getlit {W w : World} {S T : Nat} {O : Nat → Prop} {st : ShS × Int} {r : Int × Int} {m : Mp} (h : ShL W w S T O st) (hm : TellsR (shRd st.1.L) r m) {key : Nat} (hk : key < 16777216) {kI : Int} (hkI : kI = (key : Nat)) :
    Calls Try.prog 23 #[.pointer (some ⟨T, 0, none⟩), .agg #[.int .i64 r.1, .int .i64 r.2], .int .i64 kI] w (GlOk W w S T O st (m key)) := by
  subst hkI
  exact shl_get h hm hk
theorem conv1 (w : World) (x : Int) : (convert 38 38 (.slice (some ⟨w.heap.size, 0, none⟩) 1 1)).run Try.prog (w.alloc (.cells #[.int .u8 x] 5)) = .ok (.slice (some ⟨w.heap.size, 0, none⟩) 1 1) (w.alloc (.cells #[.int .u8 x] 5 (1, 2))) :=
  Lib.run_convert_bytes_const (P := Try.prog) w 38 5 #[.int .u8 x] 1 1 Try.underlying38 Try.underlying5
theorem tells_r {rd : Rdr} {r : Int × Int} {m : Mp} (h : Tells rd 0 0 r m) : TellsR rd r m := .inr h
/-- A box of the law's. -/
theorem ShL.box {W w : World} {S T : Nat} {O : Nat → Prop} {st : ShS × Int} (h : ShL W w S T O st) (r : Int × Int) (t : TypeId) : ShL W (w.alloc (.cells #[.int .i64 r.1, .int .i64 r.2] t)) S T O st ∧ BoxA (w.alloc (.cells #[.int .i64 r.1, .int .i64 r.2] t)) w.heap.size r ∧ Out O T w.heap.size :=
  ⟨h.up ((Below.refl _ _).alloc (Nat.le_refl _) _), BoxA.new w t r, h.tr.outOf (Nat.le_refl _)⟩
theorem out_next {O O' : Nat → Prop} {T g : Nat} {w : World} (h : Out O T g) (hO : ∀ k, O' k → O k ∨ w.heap.size ≤ k) (hg : g < w.heap.size) : Out O' T g := ⟨fun e => (hO g e).elim h.1 (fun e => by omega), h.2⟩
set_option maxRecDepth 100000 in
set_option maxHeartbeats 4000000 in
theorem known_any (W : World) : Calls Try.prog 20 #[] W fun e w' => e = .returned (.bool true) ∧ Below W.heap.size W w' := by
  go_enter Try.func20, Try.ntmps20
  go_upto_region 2 with (go_at_call 10; refine (newShelf_any _).mono ?_; rintro e w1 hsh; have he1 := hsh.1; subst he1)
  have HSH := Lib.hid hsh
  have HTN : Hid (Calls Try.prog 9 #[.iface 27 (.pointer (some ⟨W.heap.size, 0, none⟩))] w1 (TrNew (shM W.heap.size) w1 (· = W.heap.size) sh0)) := Lib.hid (treeNew_any (M := shM W.heap.size) (w := w1) (O := (· = W.heap.size)) (s := sh0) (show (shM W.heap.size).At w1 (· = W.heap.size) sh0 from hsh.2.2.2))
  clear hsh
  go_wp2_with (go_at_call 9; refine HTN.out.mono ?_; rintro e w2 htn; have he2 := htn.1; subst he2)
  have HL := Lib.hid (shl_new (Below.refl _ _) HSH.out htn)
  clear htn HTN HSH
  have HS1 := Lib.hid (shl_setlit HL.out (n := 63) (r := (0, 0)) (m := fun _ => none) (key := 5) (kI := 5) (sh0_rdy (by omega)) (by show (-1 : Int) < 0; omega) (.inl ⟨rfl, fun _ => rfl⟩) (by omega) rfl 120 (by omega))
  have hci := conv1 w2 120
  go_upto_region 5 with (fail)
  go_upto_region 6 with (go_at_call 22; refine HS1.out.mono ?_; rintro e w3 ⟨O3, st3, ⟨r3a, r3b⟩, hs⟩; have he3 := hs.e; subst he3; have HS3 := Lib.hid hs; clear hs HS1 HL hci)
  have HB3 := Lib.hid (HS3.out.l.box (r3a, r3b) 30)
  refine wp_forget (fun V => ShL W V W.heap.size w1.heap.size O3 st3 ∧ BoxA V w3.heap.size (r3a, r3b) ∧ Out O3 w1.heap.size w3.heap.size) HB3.out ?_
  rintro V ⟨hL, hB, hO⟩
  have HL4 := Lib.hid hL
  have HB4 := Lib.hid hB
  have HO4 := Lib.hid hO
  have b0 := hB.1
  have b1 := hB.2.1
  simp only at b0 b1
  have lb := hB.lt
  have HS1 := Lib.hid (shl_setlit HL4.out (n := 49) (r := (r3a, r3b)) (m := mp1) (key := 70000) (kI := 70000) (shK_good.mono _ _ _ HS3.out.rdy (by omega)) HS3.out.full (.inr HS3.out.g.1) (by omega) rfl 121 (by omega))
  have hci := conv1 V 121
  clear hL hB hO HB3
  go_upto_region 7 with (go_at_call 22; refine HS1.out.mono ?_; rintro e w5 ⟨O5, st5, ⟨r5a, r5b⟩, hs⟩; have he5 := hs.e; subst he5; have HS5 := Lib.hid hs; clear hs HS1 HL4 hci b0 b1 lb)
  have hal : Below V.heap.size V (V.alloc (.cells #[.int .u8 121] 5 (1, 2))) := (Below.refl _ _).alloc (Nat.le_refl _) _
  have hA := (HB4.out.off (S := fun _ => False) (Off.of_below hal) id).off HS5.out.off (by rintro (e | e); exact HO4.out.1 e; exact HO4.out.2 e)
  have hlA := hA.lt
  have HB5 := Lib.hid (HS5.out.l.box (r5a, r5b) 30)
  refine wp_forget (fun V => ShL W V W.heap.size w1.heap.size O5 st5 ∧ BoxA V w5.heap.size (r5a, r5b) ∧ Out O5 w1.heap.size w5.heap.size ∧ BoxA V w3.heap.size (r3a, r3b) ∧ Out O5 w1.heap.size w3.heap.size) ⟨HB5.out.1, HB5.out.2.1, HB5.out.2.2, hA.off (S := fun _ => False) (Off.of_below ((Below.refl _ _).alloc (Nat.le_refl _) _)) id, out_next HO4.out HS5.out.hO (by have := HB4.out.lt; have := hal.size; omega)⟩ ?_
  rintro V6 ⟨hL6, hB6, hO6, hA6, hQ6⟩
  have hsub : SubR (shRd st3.1.L) (shRd st5.1.L) := by
    obtain ⟨j, _, ha⟩ := HS5.out.aft
    exact ha.sub
  have HL6 := Lib.hid hL6
  have HB6 := Lib.hid hB6
  have HA6 := Lib.hid hA6
  have HO6 := Lib.hid hO6
  have HQ6 := Lib.hid hQ6
  have HT2 : Hid (Tells (shRd st5.1.L) 0 0 (r5a, r5b) mp2) := Lib.hid HS5.out.g.1
  have HT1 : Hid (Tells (shRd st5.1.L) 0 0 (r3a, r3b) mp1) := Lib.hid (HS3.out.g.1.mono hsub)
  have HR5 : Hid (shK.Rdy st5.1 0) := Lib.hid (shK_good.mono _ _ _ HS5.out.rdy (by omega))
  clear hL6 hB6 hO6 hA6 hQ6 hsub HS5 HS3 HB5 hA hal hlA HB4 HO4
  have HG := Lib.hid (shl_getlit HL6.out (r := (r5a, r5b)) (.inr HT2.out) (key := 5) (kI := 5) (by omega) rfl)
  have b0 := HB6.out.1
  have b1 := HB6.out.2.1
  have d0 := HA6.out.1
  have d1 := HA6.out.2.1
  have lb := HB6.out.lt
  have ld := HA6.out.lt
  simp only at b0 b1 d0 d1
  go_upto_region 8 with (go_at_call 23; refine HG.out.mono ?_; rintro e w7 ⟨v7, s7, he, hk, hs7, hv7⟩; subst he)
  clear b0 b1 lb HG
  have HK7 := Lib.hid hk
  have HS7 := Lib.hid hs7
  have HV7 := Lib.hid hv7
  have HB7 := Lib.hid (HB6.out.off hk.off HO6.out.1)
  have HA7 := Lib.hid (HA6.out.off hk.off HQ6.out.1)
  have hr7 := hk.aft.sub
  have HT2 : Hid (Tells (shRd s7.L) 0 0 (r5a, r5b) mp2) := Lib.hid (HT2.out.mono hr7)
  have HT1 : Hid (Tells (shRd s7.L) 0 0 (r3a, r3b) mp1) := Lib.hid (HT1.out.mono hr7)
  have HR7 : Hid (shK.Rdy s7 0) := Lib.hid (hk.rdy _ HR5.out)
  clear hk hs7 hv7 hr7 d0 d1 ld
  have d0 := HA7.out.1
  have d1 := HA7.out.2.1
  have ld := HA7.out.lt
  simp only at d0 d1
  have HG := Lib.hid (shl_getlit HK7.out.l (r := (r3a, r3b)) (.inr HT1.out) (key := 70000) (kI := 70000) (by omega) rfl)
  go_upto_region 9 with (go_at_call 23; refine HG.out.mono ?_; rintro e w8 ⟨v8, s8, he, hk, hs8, hv8⟩; subst he)
  clear d0 d1 ld HG
  have HK8 := Lib.hid hk
  have HS7b := Lib.hid (HS7.out.offP hk.off (HV7.out.mono fun b hb => hb.1))
  have HB8 := Lib.hid (HB7.out.off hk.off HO6.out.1)
  have hr8 := hk.aft.sub
  have HT2 : Hid (Tells (shRd s8.L) 0 0 (r5a, r5b) mp2) := Lib.hid (HT2.out.mono hr8)
  have HR8 : Hid (shK.Rdy s8 0) := Lib.hid (hk.rdy _ HR7.out)
  clear hk hs8 hv8 hr8
  have b0 := HB8.out.1
  have b1 := HB8.out.2.1
  have lb := HB8.out.lt
  simp only at b0 b1
  have HC : Hid (Calls Try.prog 25 #[.pointer (some ⟨w1.heap.size, 0, none⟩), .agg #[.int .i64 r5a, .int .i64 r5b]] w8 (ChOk W w8 W.heap.size w1.heap.size O5 (s8, st5.2) 2)) := Lib.hid (shl_check HK8.out.l HR8.out (r := (r5a, r5b)) (.inr HT2.out) mp2_lst (by show 2 ≤ 149796; omega))
  go_upto_region 10 with (go_at_call 25; refine HC.out.mono ?_; rintro e w9 ⟨s9, he, hk⟩; subst he)
  have HK9 := Lib.hid hk
  have hs9 := HS7b.out.offP hk.off (HV7.out.mono fun b hb => hb.1)
  obtain ⟨A9, n9, c9, hv9, hc9, hsb9⟩ := hs9
  subst hv9
  have hcv : (convert 38 9 (.slice A9 n9 c9)).run Try.prog w9 = .ok (.string ⟨#[120]⟩) w9 := hsb9.str c9
  clear hk b0 b1 lb HC hsb9
  go_wp2
  go_ret
  exact ⟨rfl, HK9.out.l.bel⟩
end Go.Proofs.Ytgkdggidgaifhaa
