/- radix: Get, Set, Delete and Check of a root that tells a map, over a sink that keeps what it took; the shelf is one. -/
import Derived.Test.YtbmlggieifaniaaPe
import Derived.Test.YtbmlggieifaniaaOk
import Derived.Test.YtbmlggieifaniaaOn
import Derived.Test.YtbmlggieifaniaaZc
namespace Go.Proofs.Ytbmlggieifaniaa
open Go.RowKit
set_option linter.unusedVariables false
set_option linter.unusedSimpArgs false

/-- What a shelf tells. -/
def shRd (L : List Bytes) : Rdr := fun a => if a.1 < 1 ∨ (L.length : Int) < a.1 then none else if a.2 ≠ 13 + ((L.getD (a.1 - 1).toNat []).length : Int) then none else some (L.getD (a.1 - 1).toNat [])
theorem shRd_sub (L : List Bytes) (b : Bytes) : SubR (shRd L) (shRd (L ++ [b])) := fun a x h => by
  unfold shRd at *
  split at h
  · cases h
  · rename_i h1
    split at h
    · cases h
    · rename_i h2
      have e : (L ++ [b]).getD (a.1 - 1).toNat [] = L.getD (a.1 - 1).toNat [] := by
        rw [List.getD_eq_getElem?_getD, List.getD_eq_getElem?_getD, List.getElem?_append_left (by omega)]
      rw [if_neg (by simp; omega), e, if_neg h2]
      exact h
def shP : PSnk shK where
  In s := s.bad < 0
  rd s := shRd s.L
  cnt s := s.L.length
  room s := s.full
  ez := 7
  ez0 := by decide
  get s a b hs h := by
    unfold shRd at h
    split at h
    · cases h
    · rename_i h1
      split at h
      · cases h
      · rename_i h2
        have e : shK.get s a = ({ s with gets := inc64 s.gets }, b, 0) := by
          simp only [shK]
          rw [if_neg h1, if_neg h2, if_neg (by have : s.bad < 0 := hs; omega)]
          rw [Option.some.inj h]
        rw [e]
        exact ⟨rfl, hs, rfl, rfl, rfl⟩
  put s b hs hr hb h0 := by
    have e : shK.put s b = ({ s with L := s.L ++ [b], full := if 0 < s.full then s.full - 1 else s.full }, ((s.L.length : Int) + 1, 13 + (b.length : Int)), 0) := by
      simp only [shK]
      rw [if_neg h0]
    rw [e]
    refine ⟨rfl, hs, ?_, ?_, shRd_sub s.L b, by simp, rfl⟩
    · unfold shRd
      have e2 : (s.L ++ [b]).getD ((s.L.length : Int) + 1 - 1).toNat [] = b := by
        rw [show ((s.L.length : Int) + 1 - 1).toNat = s.L.length by omega, List.getD_eq_getElem?_getD, List.getElem?_append_right (Nat.le_refl _)]
        simp
      simp only [e2]
      rw [if_neg (by simp; omega), if_neg (by simp)]
    · intro h
      have := congrArg Prod.fst h
      simp at this
      omega
  full s b hs h0 := by
    have e : shK.put s b = (s, (0, 0), 7) := by simp only [shK]; rw [if_pos h0]
    rw [e]
    exact ⟨rfl, rfl⟩
section
variable {σ : Type} {K : SnkF σ} {M : Snk K} (P : PSnk K)
/-- Set or Delete has answered; n blobs at most. -/
structure RtPost (M : Snk K) (w : World) (T : Nat) (O : Nat → Prop) (st : σ × Int) (n : Nat) (G : Rdr → Int × Int → Prop) (Z : σ → Prop) (e : Ending) (w' : World) (O' : Nat → Prop) (st' : σ × Int) (r' : Int × Int) (er : Int) : Prop where
  e : e = .returned (.tuple #[addrV r', .int .i64 er])
  tr : TrAt M w' T O' st'.1 st'.2
  off : Off (OT O T) w w'
  hO : ∀ k, O' k → O k ∨ w.heap.size ≤ k
  z : Z st'.1
  r : (er = 0 ∧ ∃ j, j ≤ n ∧ Aft P j st st' ∧ G (P.rd st'.1) r') ∨ (er = P.ez ∧ ∃ j, j < n ∧ Aft P j st st' ∧ P.room st'.1 = 0)
theorem set_tells (hK : K.Good) {key : Nat} (hk : key < 16777216) {v : Bytes} (hv : v.length ≤ 256) {s : σ} {p : Int} {r : Int × Int} {m : Mp} (h : TellsR (P.rd s) r m) (hi : P.In s) (hr : K.Rdy s 7) :
    Outc P 6 (s, p) (setF K 7 (s, p) r 0 0 key v) fun rd' r' => Tells rd' 0 0 r' (upd m key (some v)) ∧ (m key = some v → r' = r) := by
  rcases h with ⟨rfl, h⟩ | h
  · unfold setF
    rw [if_pos rfl]
    exact (set_new hi (hK.mono _ _ _ hr (by omega)) hk hv (by omega) (front0 hk)).mono (by omega) fun rd' r' _ hg => ⟨hg h, fun e => by rw [h] at e; cases e⟩
  · exact set_is hK hk hv h 7 s p (by omega) (by omega) (front0 hk) hi rfl hr
theorem cut_tells (hK : K.Good) {key : Nat} (hk : key < 16777216) {s : σ} {p : Int} {r : Int × Int} {m : Mp} (h : TellsR (P.rd s) r m) (hi : P.In s) (hr : K.Rdy s 7) :
    Outc P 7 (s, p) (cutF K 7 (s, p) r 0 0 key) fun rd' r' => TellsR rd' r' (upd m key none) ∧ (m key = none → r' = r) := by
  rcases h with ⟨rfl, h⟩ | h
  · unfold cutF
    rw [if_pos rfl]
    refine Outc.same (Aft.refl hi) ⟨.inl ⟨rfl, fun k => ?_⟩, fun _ => rfl⟩
    simp only [upd]
    split
    · rfl
    · exact h k
  · exact cut_is hK hk h 7 s p (by omega) (by omega) hi rfl hr
theorem set_law (hK : K.Good) {w : World} {T : Nat} {O : Nat → Prop} {s : σ} {p : Int} (h : TrAt M w T O s p) (hi : P.In s) {n : Nat} (hr : K.Rdy s (n + 7)) {r : Int × Int} {m : Mp} (hm : TellsR (P.rd s) r m) {key : Nat} (hk : key < 16777216) {v : Value} {L : Bytes} (hv : SlB w v L) (hL : L.length ≤ 256) (hvo : VIn (Out O T) v) :
    Calls Try.prog 12 #[.pointer (some ⟨T, 0, none⟩), addrV r, .int .i64 (key : Nat), v] w fun e w' => ∃ O' st' r' er, RtPost P M w T O (s, p) 6 (fun rd' r' => Tells rd' 0 0 r' (upd m key (some L)) ∧ (m key = some L → r' = r)) (fun s' => K.Rdy s' n) e w' O' st' r' er := by
  have h1 := set_tells P hK hk hL (p := p) hm hi (hK.mono _ _ _ hr (by omega))
  have h2 := (setF_good hK hk hL 7 0 s p r 0 n (by omega) (by omega) hr).1
  refine (set1_any hK h (hK.mono _ _ _ hr (by omega)) r hk hv hL hvo).mono ?_
  rintro e w' ⟨O', he, ht, ho, hO⟩
  generalize setF K 7 (s, p) r 0 0 key L = y at *
  obtain ⟨st', r', er⟩ := y
  simp only [outY] at he ht
  rcases h1 with ⟨j, h3, h4, h5, h6⟩ | ⟨j, h3, h4, h5, h6⟩
  · simp only at h4 h5 h6 h2
    rw [if_pos h5] at he
    exact ⟨O', st', r', er, ⟨he, ht, ho, hO, h2, .inl ⟨h5, j, h3, h4, h6⟩⟩⟩
  · simp only at h4 h5 h6 h2
    rw [if_neg (by rw [h5]; exact P.ez0)] at he
    exact ⟨O', st', _, er, ⟨he, ht, ho, hO, h2, .inr ⟨h5, j, h3, h4, h6⟩⟩⟩
theorem del_law (hK : K.Good) {w : World} {T : Nat} {O : Nat → Prop} {s : σ} {p : Int} (h : TrAt M w T O s p) (hi : P.In s) {n : Nat} (hr : K.Rdy s (n + 7)) {r : Int × Int} {m : Mp} (hm : TellsR (P.rd s) r m) {key : Nat} (hk : key < 16777216) :
    Calls Try.prog 14 #[.pointer (some ⟨T, 0, none⟩), addrV r, .int .i64 (key : Nat)] w fun e w' => ∃ O' st' r' er, RtPost P M w T O (s, p) 7 (fun rd' r' => TellsR rd' r' (upd m key none) ∧ (m key = none → r' = r)) (fun s' => K.Rdy s' n) e w' O' st' r' er := by
  have h1 := cut_tells P hK hk (p := p) hm hi (hK.mono _ _ _ hr (by omega))
  have h2 := (cutF_good hK hk 7 0 s p r 0 n (by omega) (by omega) hr).1
  refine (delete_any hK h (hK.mono _ _ _ hr (by omega)) r hk).mono ?_
  rintro e w' ⟨O', he, ht, ho, hO⟩
  generalize cutF K 7 (s, p) r 0 0 key = y at *
  obtain ⟨st', r', er⟩ := y
  simp only [outY] at he ht
  rcases h1 with ⟨j, h3, h4, h5, h6⟩ | ⟨j, h3, h4, h5, h6⟩
  · simp only at h4 h5 h6 h2
    rw [if_pos h5] at he
    exact ⟨O', st', r', er, ⟨he, ht, ho, hO, h2, .inl ⟨h5, j, h3, h4, h6⟩⟩⟩
  · simp only at h4 h5 h6 h2
    rw [if_neg (by rw [h5]; exact P.ez0)] at he
    exact ⟨O', st', _, er, ⟨he, ht, ho, hO, h2, .inr ⟨h5, j, h3, h4, h6⟩⟩⟩
/-- Get has answered. -/
def GlPost (M : Snk K) (w : World) (T : Nat) (O : Nat → Prop) (s : σ) (p : Int) (mk : Option Bytes) (e : Ending) (w' : World) : Prop :=
  ∃ v s', e = .returned (.tuple #[v, .bool mk.isSome, .int .i64 0]) ∧ TrAt M w' T O s' p ∧ Off O w w' ∧ SlB w' v (mk.getD []) ∧ (∀ b o n c, v = .slice (some ⟨b, o, none⟩) n c → w.heap.size ≤ b) ∧ Aft P 0 (s, p) (s', p) ∧ ∀ n, K.Rdy s n → K.Rdy s' n
theorem lookF_rdy (hK : K.Good) : ∀ (n : Nat) (s : σ) (r : Int × Int) (l q key k : Nat), K.Rdy s k → K.Rdy (lookF K n s r l q key).1 k
  | 0, s, r, l, q, key, k, h => h
  | n + 1, s, r, l, q, key, k, h => by
    unfold lookF
    split
    · exact h
    · cases hy : tgetF K s r l q with
      | mk s1 oe =>
        have hs1 : s1 = (K.get s r).1 := by rw [← tget_fst (K := K) (s := s) (r := r) (l := l) (q := q), hy]
        have h1 : K.Rdy s1 k := by rw [hs1]; exact hK.getR _ _ _ h
        obtain ⟨ox, er⟩ := oe
        cases ox with
        | none => exact h1
        | some x =>
          simp only
          split
          · split <;> exact h1
          · split
            · exact h1
            · split
              · exact h1
              · exact lookF_rdy hK n s1 _ _ _ _ k h1
theorem get_law (hK : K.Good) {w : World} {T : Nat} {O : Nat → Prop} {s : σ} {p : Int} (h : TrAt M w T O s p) (hi : P.In s) {r : Int × Int} {m : Mp} (hm : TellsR (P.rd s) r m) {key : Nat} (hk : key < 16777216) :
    Calls Try.prog 18 #[.pointer (some ⟨T, 0, none⟩), addrV r, .int .i64 (key : Nat)] w (GlPost P M w T O s p (m key)) := by
  have h1 : ∃ s', lookF K 7 s r 0 0 key = (s', (m key).getD [], (m key).isSome, 0) ∧ Aft P 0 (s, p) (s', p) := by
    rcases hm with ⟨rfl, hm⟩ | hm
    · refine ⟨s, ?_, Aft.refl hi⟩
      unfold lookF
      rw [if_pos rfl, hm]
      rfl
    · obtain ⟨s', e, ha⟩ := look_is hm 7 s key (by omega) hi rfl
      exact ⟨s', e, ha p⟩
  have h2 := fun n => lookF_rdy hK 7 s r 0 0 key n
  obtain ⟨s', e1, ha⟩ := h1
  refine (look_any h r hk).mono ?_
  rintro e w' ⟨v, he, ht, ho, hs, hb⟩
  rw [e1] at he ht hs h2
  exact ⟨v, s', he, ht, ho, hs, hb, ha, h2⟩
theorem foldU_chk : ∀ (ps : Ps) (a : Int), foldU chkF a ps = (incN a ps.length, true)
  | [], a => rfl
  | (k, v) :: ps, a => by
    have ih := foldU_chk ps (inc64 a)
    have e : foldU chkF a ((k, v) :: ps) = foldU chkF (inc64 a) ps := rfl
    rw [e, ih, List.length_cons, ← incN_one a, incN_add, Nat.add_comm]
  where incN_one (a : Int) : incN a 1 = inc64 a := rfl
theorem incN_small : ∀ (n : Nat) (a : Int), 0 ≤ a → a + n < 9223372036854775808 → incN a n = a + n
  | 0, a, _, _ => by simp [incN]
  | n + 1, a, h1, h2 => by
    rw [incN, incN_small n a h1 (by omega)]
    unfold inc64
    have : wrap64 (a + n + 1) = a + n + 1 := by unfold wrap64; omega
    rw [this]; omega
theorem walkF_rdy (hK : K.Good) {α : Type} (cb : α → Int × Int → RN → α × Bool) : ∀ (n : Nat) (st : WkSt σ α) (r : Int × Int) (l q k : Nat), K.Rdy st.1 k → K.Rdy (walkF K cb n st r l q).1.1 k
  | 0, st, r, l, q, k, h => h
  | n + 1, (s, left, a), r, l, q, k, h => by
    unfold walkF
    split
    · exact h
    · split
      · exact h
      · cases hy : tgetF K s r l q with
        | mk s1 oe =>
          have hs1 : s1 = (K.get s r).1 := by rw [← tget_fst (K := K) (s := s) (r := r) (l := l) (q := q), hy]
          have h1 : K.Rdy s1 k := by rw [hs1]; exact hK.getR _ _ _ h
          obtain ⟨ox, er⟩ := oe
          cases ox with
          | none => exact h1
          | some x =>
            simp only
            split
            · exact h1
            · have hkd : ∀ (m i : Nat) (st : WkSt σ α), K.Rdy st.1 k → K.Rdy (kidsF (walkF K cb n) x m i st).1.1 k := by
                intro m
                induction m with
                | zero => intro i st h; exact h
                | succ m ih =>
                  intro i st h
                  unfold kidsF
                  split
                  · exact ih _ _ h
                  · have h2 := walkF_rdy hK cb n st (x.kids i) (x.level + 1) (x.prefix_ * 16 + i) k h
                    generalize walkF K cb n st (x.kids i) (x.level + 1) (x.prefix_ * 16 + i) = y at h2
                    obtain ⟨st', more, e⟩ := y
                    simp only
                    split
                    · exact ih _ _ h2
                    · exact h2
              exact hkd 16 0 _ h1
/-- A map's pairs, in order. -/
theorem tells_list {s : σ} {r : Int × Int} {m : Mp} (hm : TellsR (P.rd s) r m) (hi : P.In s) : ∃ ps, Lst m ps ∧ (ps = [] ↔ r = (0, 0)) ∧ ∀ {α : Type} (f : α → Nat → Bytes → α × Bool) (a : α), ps.length ≤ 149796 →
    ∃ s' left', walkF K (pairsC f) 7 (s, 1048576, a) r 0 0 = ((s', left', (foldU f a ps).1), (foldU f a ps).2, 0) ∧ Like P s s' := by
  rcases hm with ⟨rfl, h⟩ | h
  · refine ⟨[], ⟨.nil, fun k v => by rw [h]; simp⟩, by simp, fun f a _ => ⟨s, 1048576, ?_, Like.refl hi⟩⟩
    unfold walkF
    rw [if_pos rfl]
    rfl
  · obtain ⟨ps, c, hw⟩ := walk_is P h
    refine ⟨ps, hw.lst, ⟨fun e => absurd e hw.ne, fun e => absurd e h.ne0⟩, fun f a hle => ?_⟩
    obtain ⟨s', left', h1, h2, _⟩ := hw.go f 7 s 1048576 a (by omega) hi rfl (by have := hw.le; omega)
    exact ⟨s', left', h1, h2⟩
end
end Go.Proofs.Ytbmlggieifaniaa
