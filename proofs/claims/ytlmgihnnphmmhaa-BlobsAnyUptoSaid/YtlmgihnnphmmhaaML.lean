/- blobs, plain: what a world of the laws holds; a Put keeps it. blobs, plain: what Get tells, what is left, how many are open. The laws' world in memory; begun. -/
import Derived.Test.YtlmgihnnphmmhaaMK
import Derived.Test.YtlmgihnnphmmhaaPdZ
import Derived.Test.YtlmgihnnphmmhaaMG
import Derived.Test.YtlmgihnnphmmhaaMH
namespace Go.Proofs.Ytlmgihnnphmmhaa
open Go.RowKit
set_option linter.unusedVariables false
set_option linter.unusedSimpArgs false

structure WoS where
  s : StS
  ad : List (Nat × Nat)
  bl : List BArg
def segOf (c : Cfg) (a : Nat) : Nat := (a - 2 - c.journal) / c.seg
theorem segOf_in {c : Cfg} {k a : Nat} (h3 : 0 < c.seg) (h1 : 2 + c.journal + k * c.seg ≤ a) (h2 : a < 2 + c.journal + k * c.seg + c.seg) : segOf c a = k := by
  unfold segOf
  rw [Nat.div_eq_iff h3]
  constructor <;> (try rw [Nat.mul_comm]) <;> (try rw [Nat.mul_comm]) <;> omega
def usedBy (c : Cfg) (k : Nat) : List (Nat × Nat) → Nat
  | [] => 0
  | p :: l => usedBy c k l + if segOf c p.1 = k then secs c.z p.2 else 0
theorem usedBy_app (c : Cfg) (k : Nat) (l m : List (Nat × Nat)) : usedBy c k (l ++ m) = usedBy c k l + usedBy c k m := by
  induction l with
  | nil => simp [usedBy]
  | cons p l ih => simp only [List.cons_append, usedBy, ih]; omega
/-- A blob stands at a place. -/
structure Placed (f : Nat → Bool) (s : StS) (a N : Nat) (L : Bytes) (k : Nat) : Prop where
  r : RightN s.c a N k
  hN : N = (putF L).length
  rd : ∀ i, i < secs s.c.z N → s.d.read (a + i) = sec s.c.z (padF s.c.z (putF L)) i
  en : s.t.ent k ≠ none
  be : s.op = some k → a + secs s.c.z N ≤ 2 + s.c.journal + k * s.c.seg + s.us
  nf : f k = false
structure WoInv (f : Nat → Bool) (x : WoS) : Prop where
  len : x.ad.length = x.bl.length
  pl : ∀ (i a N : Nat) (b : BArg), x.ad[i]? = some (a, N) → x.bl[i]? = some b → ∃ k, Placed f x.s a N b.L k
  us : ∀ k, x.s.t.us k = usedBy x.s.c k x.ad
  fu : ∀ k, f k = true → x.s.t.ent k = some (2, 0)
  on : x.s.d.off = false
theorem RightN.seg {c : Cfg} {a N k : Nat} (h : c.Ok) (r : RightN c a N k) : segOf c a = k := by
  have hp := secs_pos (z := c.z) (n := N) (by have := h.h1; omega) (by have := r.hn; omega)
  exact segOf_in (by have := h.h3; omega) r.lo (by have := r.hi; omega)
/-- Two segments lie apart. -/
theorem seg_apart {c : Cfg} {j k : Nat} (h : j < k) : 2 + c.journal + j * c.seg + c.seg ≤ 2 + c.journal + k * c.seg := by
  have h1 : (j + 1) * c.seg ≤ k * c.seg := Nat.mul_le_mul_right _ h
  rw [Nat.add_mul, Nat.one_mul] at h1
  omega
theorem Placed.apart {f : Nat → Bool} {s : StS} {a N : Nat} {L : Bytes} {k0 k u n : Nat} (h : Placed f s a N L k0) (hs : StOk s) (r : Room s n k u) (ht : ∀ k e, s.t.ent k = some e → 0 < e.1) (hl : u + n ≤ s.c.seg) :
    (k0 ≠ k ∨ a + secs s.c.z N ≤ 2 + s.c.journal + k * s.c.seg + u) ∧ (a + secs s.c.z N ≤ 2 + s.c.journal + k * s.c.seg + u ∨ 2 + s.c.journal + k * s.c.seg + u + n ≤ a) := by
  have h1 := h.r.lo
  have h2 := h.r.hi
  have key : k0 = k → a + secs s.c.z N ≤ 2 + s.c.journal + k * s.c.seg + u := fun e => by
    subst e
    rcases r with ⟨r1, r2, r3⟩ | ⟨r1, r2, r3⟩
    · rw [r3]; exact h.be r1
    · exfalso
      have h3 := r2.2.1
      cases he : s.t.ent k0 with
      | none => exact h.en he
      | some e =>
        have := ht k0 e he
        unfold TbS.st at h3
        rw [he] at h3
        simp only [Option.getD_some] at h3
        omega
  rcases Nat.lt_trichotomy k0 k with h5 | h5 | h5
  · have := seg_apart (c := s.c) h5
    exact ⟨.inl (by omega), .inl (by omega)⟩
  · exact ⟨.inr (key h5), .inl (key h5)⟩
  · have := seg_apart (c := s.c) h5
    exact ⟨.inl (by omega), .inr (by omega)⟩
theorem takeT_us {s : StS} {n k u : Nat} (h : StOk s) (r : Room s n k u) (ht : ∀ k e, s.t.ent k = some e → 0 < e.1) (j : Nat) : (takeT s k).us j = s.t.us j := by
  unfold takeT
  split
  · rfl
  · rename_i hop
    obtain ⟨q1, _⟩ := r.ent h ht hop
    have hf : ∀ j, (fillT s.t s.op).us j = s.t.us j := fun j => by
      unfold TbS.us
      rw [fillT_ent h]
      split
      · cases s.t.ent j <;> rfl
      · rfl
    by_cases hj : j = k
    · subst hj
      rw [← hf]
      unfold TbS.us TbS.setE
      rw [q1]
      simp
    · rw [← hf]
      unfold TbS.us TbS.setE
      simp [hj]
theorem takeT_some {s : StS} {k j : Nat} (h : StOk s) (hj : s.t.ent j ≠ none) : (takeT s k).ent j ≠ none := by
  unfold takeT
  split
  · exact hj
  · unfold TbS.setE
    simp only
    split
    · simp
    · rw [fillT_ent h]
      split
      · simpa using hj
      · exact hj
theorem zeros_length' (n : Nat) : (zeros n).length = n := by simp [zeros]
theorem padF_length {z : Nat} (F : Bytes) (hz : 0 < z) : (padF z F).length = secs z F.length * z := by
  unfold padF
  rw [List.length_append, zeros_length']
  have := secs_ge (z := z) (n := F.length) hz
  omega
theorem WoInv.put {f : Nat → Bool} {x : WoS} (h : WoInv f x) (hs : StOk x.s) {b : BArg} {k u : Nat} (r : Room x.s (secs x.s.c.z (putF b.L).length) k u) (ht : ∀ k e, x.s.t.ent k = some e → k < x.s.t.n ∧ 0 < e.1) (hb : b.L.length ≤ 65536) (hl : secs x.s.c.z (putF b.L).length ≤ x.s.c.seg) :
    WoInv f ⟨x.s.put (x.s.d.putN (2 + x.s.c.journal + k * x.s.c.seg + u) (padF x.s.c.z (putF b.L)) (secs x.s.c.z (putF b.L).length)) k u (secs x.s.c.z (putF b.L).length), x.ad ++ [(2 + x.s.c.journal + k * x.s.c.seg + u, (putF b.L).length)], x.bl ++ [b]⟩ ∧
      RightN x.s.c (2 + x.s.c.journal + k * x.s.c.seg + u) (putF b.L).length k ∧
      (∀ (i a N : Nat), x.ad[i]? = some (a, N) → (a + secs x.s.c.z N ≤ 2 + x.s.c.journal + k * x.s.c.seg + u ∨ 2 + x.s.c.journal + k * x.s.c.seg + u + secs x.s.c.z (putF b.L).length ≤ a)) := by
  have ht' : ∀ k e, x.s.t.ent k = some e → 0 < e.1 := fun k e he => (ht k e he).2
  obtain ⟨hk, hul⟩ := r.lt hs (fun k e he => (ht k e he).1) hl
  have hz := hs.ok.h1
  have hN : 13 ≤ (putF b.L).length ∧ (putF b.L).length ≤ 1048576 := by
    have h1 := putF_le b.L
    rw [putF_length] at *
    exact ⟨by omega, by omega⟩
  generalize hF : putF b.L = F at *
  generalize hn : secs x.s.c.z F.length = n at *
  generalize ha : 2 + x.s.c.journal + k * x.s.c.seg + u = a at *
  have hr : RightN x.s.c a F.length k := ⟨by omega, by rw [hn]; omega, hk, hN⟩
  have hap : ∀ (i a' N : Nat) (b' : BArg), x.ad[i]? = some (a', N) → x.bl[i]? = some b' → ∀ k0, Placed f x.s a' N b'.L k0 → (k0 ≠ k ∨ a' + secs x.s.c.z N ≤ a) ∧ (a' + secs x.s.c.z N ≤ a ∨ a + n ≤ a') := fun i a' N b' h1 h2 k0 hp => by
    have := hp.apart hs r ht' hul
    rw [ha] at this
    exact this
  obtain ⟨t1, t2⟩ := r.take hs ht'
  have hd : ∀ i, (x.s.d.putN a (padF x.s.c.z F) n).read i = if a ≤ i ∧ i < a + n then sec x.s.d.z (padF x.s.c.z F) (i - a) else x.s.d.read i := fun i => read_putN _ _ _ _ _
  refine ⟨⟨by simp [h.len], fun i a' N b' h1 h2 => ?_, fun j => ?_, fun j hj => ?_, ?_⟩, hr, fun i a' N h1 => ?_⟩
  · simp only at h1 h2 ⊢
    by_cases hi : i < x.ad.length
    · rw [List.getElem?_append_left hi] at h1
      rw [List.getElem?_append_left (by rw [← h.len]; exact hi)] at h2
      obtain ⟨k0, hp⟩ := h.pl i a' N b' h1 h2
      obtain ⟨p1, p2⟩ := hap i a' N b' h1 h2 k0 hp
      refine ⟨k0, hp.r, hp.hN, fun i hi => ?_, ?_, fun e => ?_, hp.nf⟩
      · show (x.s.d.putN a (padF x.s.c.z F) n).read (a' + i) = _
        have hi' : i < secs x.s.c.z N := hi
        rw [hd, if_neg (by omega)]
        exact hp.rd i hi
      · show ((takeT x.s k).setE k (1, (takeT x.s k).us k + n)).ent k0 ≠ none
        unfold TbS.setE
        simp only
        split
        · simp
        · exact takeT_some hs hp.en
      · have e2 : k = k0 := by injection e
        subst e2
        have p3 : a' + secs x.s.c.z N ≤ a := p1.resolve_left fun e => e rfl
        show a' + secs x.s.c.z N ≤ 2 + x.s.c.journal + k * x.s.c.seg + (u + n)
        omega
    · have hi' : i = x.ad.length := by
        have := (List.getElem?_eq_some_iff.1 h1).1
        simp at this
        omega
      subst hi'
      rw [List.getElem?_append_right (Nat.le_refl _), Nat.sub_self] at h1
      rw [List.getElem?_append_right (by rw [← h.len]; exact Nat.le_refl _), ← h.len, Nat.sub_self] at h2
      simp at h1 h2
      obtain ⟨rfl, rfl⟩ := h1
      subst h2
      refine ⟨k, hr, by rw [hF], fun i hi => ?_, ?_, fun e => ?_, ?_⟩
      · show (x.s.d.putN a (padF x.s.c.z F) n).read (a + i) = _
        have hi' : i < n := by rw [← hn]; exact hi
        rw [hd, if_pos (by omega), Nat.add_sub_cancel_left, hs.dz, hF]
        exact rfl
      · show ((takeT x.s k).setE k (1, (takeT x.s k).us k + n)).ent k ≠ none
        unfold TbS.setE
        simp
      · show a + secs x.s.c.z F.length ≤ 2 + x.s.c.journal + k * x.s.c.seg + (u + n)
        rw [hn]
        omega
      · cases hfk : f k with
        | false => rfl
        | true =>
          exfalso
          have h5 := h.fu k hfk
          rcases r with ⟨r1, _⟩ | ⟨_, r2, _⟩
          · obtain ⟨v, hv⟩ := hs.opn k r1
            rw [h5] at hv
            cases hv
          · have h6 := r2.2.1
            unfold TbS.st at h6
            rw [h5] at h6
            simp at h6
  · show ((takeT x.s k).setE k (1, (takeT x.s k).us k + n)).us j = usedBy x.s.c j (x.ad ++ [(a, F.length)])
    rw [usedBy_app, ← h.us j, ← takeT_us hs r ht' j]
    have hsg := hr.seg hs.ok
    by_cases hj : j = k
    · subst hj
      unfold usedBy usedBy
      simp only [hsg]
      rw [if_pos trivial, hn]
      unfold TbS.us TbS.setE
      simp
    · unfold usedBy usedBy
      simp only [hsg]
      rw [if_neg (fun e => hj e.symm)]
      unfold TbS.us TbS.setE
      simp [hj]
  · have h5 := h.fu j hj
    have hjk : j ≠ k := fun e => by
      subst e
      rcases r with ⟨r1, _⟩ | ⟨_, r2, _⟩
      · obtain ⟨v, hv⟩ := hs.opn j r1
        rw [h5] at hv
        cases hv
      · have h6 := r2.2.1
        unfold TbS.st at h6
        rw [h5] at h6
        simp at h6
    show ((takeT x.s k).setE k (1, (takeT x.s k).us k + n)).ent j = some (2, 0)
    unfold TbS.setE
    simp only [hjk, if_false]
    unfold takeT
    split
    · exact h5
    · unfold TbS.setE
      simp only [hjk, if_false]
      rw [fillT_ent hs, if_neg]
      · exact h5
      · intro e
        obtain ⟨v, hv⟩ := hs.opn j e
        rw [h5] at hv
        cases hv
  · show (x.s.d.putN a (padF x.s.c.z F) n).off = false
    rw [putN_off]
    exact h.on
  · have hi : i < x.bl.length := by rw [← h.len]; exact (List.getElem?_eq_some_iff.1 h1).1
    obtain ⟨k0, hp⟩ := h.pl i a' N x.bl[i] h1 (List.getElem?_eq_getElem hi)
    exact (hap i a' N _ h1 (List.getElem?_eq_getElem hi) k0 hp).2
end Go.Proofs.Ytlmgihnnphmmhaa
namespace Go.Proofs.Ytlmgihnnphmmhaa
open Go.RowKit
set_option linter.unusedVariables false
set_option linter.unusedSimpArgs false

theorem joinR_eq {d : DkS} {a z : Nat} {F : Bytes} : ∀ n, (∀ i, i < n → d.read (a + i) = sec z F i) → d.joinR a n = joinN z F n
  | 0, _ => rfl
  | n + 1, h => by
    unfold DkS.joinR joinN
    rw [joinR_eq n (fun i hi => h i (by omega)), h n (by omega)]
theorem putF_read (L : Bytes) (hL : L.length ≤ 65536) : unFrame (putF L) (putF L).length = (L, 0) := by
  have h1 := rdFrame_frame (b8 1) (packB L) [] (by have := packB_le L; omega)
  rw [List.append_nil] at h1
  have h2 : rdFrame (putF L) = (1, packB L, (putF L).length, 0) := by
    rw [putF_length]
    exact h1
  rw [unFrame_ok h2, packB_unpack (by omega) (by omega), if_neg (by simp)]
theorem Placed.get {f : Nat → Bool} {s : StS} {a N k : Nat} {L : Bytes} (h : Placed f s a N L k) (hs : StOk s) (hL : L.length ≤ 65536) : s.d.getB a N = (L, 0) := by
  have hz : 0 < s.c.z := by have := hs.ok.h1; omega
  unfold DkS.getB
  rw [hs.dz, joinR_eq _ h.rd, joinN_eq]
  have h1 : (padF s.c.z (putF L)).length = secs s.c.z N * s.c.z := by rw [padF_length _ hz, h.hN]
  rw [List.take_of_length_le (l := padF s.c.z (putF L)) (i := secs s.c.z N * s.c.z) (by rw [h1]; exact Nat.le_refl _)]
  have h2 : (padF s.c.z (putF L)).take N = putF L := by
    unfold padF
    rw [h.hN, List.take_left' rfl]
  rw [h2, h.hN]
  exact putF_read L hL
theorem cnt_same {t t' : TbS} {x : Nat} : ∀ m, (∀ j, j < m → (t'.st j = x ↔ t.st j = x)) → t'.cnt x m = t.cnt x m
  | 0, _ => rfl
  | m + 1, h => by
    unfold TbS.cnt
    rw [cnt_same m (fun j hj => h j (by omega))]
    by_cases h1 : t.st m = x
    · rw [if_pos h1, if_pos ((h m (by omega)).2 h1)]
    · rw [if_neg h1, if_neg (fun e => h1 ((h m (by omega)).1 e))]
theorem cnt_less {t t' : TbS} {x k : Nat} (hk : t.st k = x) (hk' : t'.st k ≠ x) : ∀ m, (∀ j, j < m → j ≠ k → (t'.st j = x ↔ t.st j = x)) → k < m → t'.cnt x m + 1 = t.cnt x m
  | 0, _, h => absurd h (Nat.not_lt_zero _)
  | m + 1, h, hm => by
    unfold TbS.cnt
    by_cases hkm : k = m
    · subst hkm
      rw [cnt_same k (fun j hj => h j (by omega) (by omega)), if_neg hk', if_pos hk]
    · have := cnt_less hk hk' m (fun j hj hne => h j (by omega) hne) (by omega)
      by_cases h1 : t.st m = x
      · rw [if_pos h1, if_pos ((h m (by omega) (fun e => hkm e.symm)).2 h1)]
        omega
      · rw [if_neg h1, if_neg (fun e => h1 ((h m (by omega) (fun e => hkm e.symm)).1 e))]
        omega
theorem cnt_zero {t : TbS} {x : Nat} : ∀ m, (∀ j, j < m → t.st j ≠ x) → t.cnt x m = 0
  | 0, _ => rfl
  | m + 1, h => by
    unfold TbS.cnt
    rw [cnt_zero m (fun j hj => h j (by omega)), if_neg (h m (by omega))]
theorem cnt_one {t : TbS} {x : Nat} : ∀ m, (∀ i j, t.st i = x → t.st j = x → i = j) → t.cnt x m ≤ 1
  | 0, _ => Nat.zero_le _
  | m + 1, h => by
    unfold TbS.cnt
    by_cases h1 : t.st m = x
    · rw [if_pos h1, cnt_zero m (fun j hj e => by have := h j m e h1; omega)]
      exact Nat.le_refl _
    · rw [if_neg h1]
      exact cnt_one m h
theorem fillT_st {s : StS} (h : StOk s) (j : Nat) : (fillT s.t s.op).st j = 0 ↔ s.t.st j = 0 := by
  unfold TbS.st
  rw [fillT_ent h]
  split
  · rename_i hop
    obtain ⟨u, hu⟩ := h.opn j hop
    rw [hu]
    simp
  · exact Iff.rfl
theorem left_put {s : StS} {d' : DkS} {n k u : Nat} (h : StOk s) (r : Room s n k u) (ht : ∀ k e, s.t.ent k = some e → k < s.t.n ∧ 0 < e.1) (hn : n ≤ s.c.seg) : (s.put d' k u n).left + n ≤ s.left := by
  have ht' : ∀ k e, s.t.ent k = some e → 0 < e.1 := fun k e he => (ht k e he).2
  obtain ⟨hk, hul⟩ := r.lt h (fun k e he => (ht k e he).1) hn
  obtain ⟨t1, t2⟩ := r.take h ht'
  have hE : ∀ j, ((s.put d' k u n).t.st j = 0 ↔ (takeT s k).st j = 0) := fun j => by
    show ((takeT s k).setE k (1, (takeT s k).us k + n)).st j = 0 ↔ _
    unfold TbS.st TbS.setE
    by_cases hj : j = k
    · subst hj
      rw [t1]
      simp
    · simp [hj]
  have hc : (s.put d' k u n).t.cnt 0 s.t.n = (takeT s k).cnt 0 s.t.n := cnt_same _ (fun j _ => hE j)
  have hn' : (s.put d' k u n).t.n = s.t.n := takeT_n s k
  have hl : (s.put d' k u n).left = (takeT s k).cnt 0 s.t.n * s.c.seg + (s.c.seg - (u + n)) := by
    unfold StS.left
    rw [hn', hc]
    rfl
  rw [hl]
  by_cases hop : s.op = some k
  · have e : takeT s k = s.t := if_pos hop
    rw [e]
    unfold StS.left
    rw [hop]
    rcases r with ⟨_, r2, r3⟩ | ⟨_, r2, _⟩
    · simp only
      omega
    · obtain ⟨v, hv⟩ := h.opn k hop
      have h6 := r2.2.1
      unfold TbS.st at h6
      rw [hv] at h6
      simp at h6
  · obtain ⟨q1, _, q3, q4⟩ := r.ent h ht' hop
    have e : takeT s k = (fillT s.t s.op).setE k (1, 0) := if_neg hop
    have hst : s.t.st k = 0 := by
      rw [← fillT_st h]
      unfold TbS.st
      rw [q1]
      rfl
    have h1 : (takeT s k).cnt 0 s.t.n + 1 = s.t.cnt 0 s.t.n := by
      refine cnt_less hst ?_ _ (fun j _ hj => ?_) q3
      · unfold TbS.st
        rw [t1]
        simp
      · rw [e, ← fillT_st h]
        unfold TbS.st TbS.setE
        simp [hj]
    have h2 : s.t.cnt 0 s.t.n * s.c.seg ≤ s.left := Nat.le_add_right _ _
    rw [← h1, Nat.add_mul, Nat.one_mul] at h2
    omega
theorem left_none {s : StS} {n : Nat} (h : StOk s) (r : NoRoom s n) : s.left < 2 * s.c.seg := by
  have h3 := h.ok.h3
  have h0 : s.t.cnt 0 s.t.n = 0 := cnt_zero _ r.2
  unfold StS.left
  rw [h0]
  cases s.op <;> simp only <;> omega
theorem open_one {s : StS} (h : StOk s) : s.t.cnt 1 s.t.n ≤ 1 := by
  have key : ∀ i, s.t.st i = 1 → s.op = some i := fun i hi => by
    unfold TbS.st at hi
    cases he : s.t.ent i with
    | none => rw [he] at hi; cases hi
    | some e =>
      rw [he] at hi
      obtain ⟨a, b⟩ := e
      simp at hi
      subst hi
      exact h.one i b he
  refine cnt_one _ fun i j hi hj => ?_
  have := (key i hi).symm.trans (key j hj)
  injection this
def sumTo (g : Nat → Nat) : Nat → Nat
  | 0 => 0
  | m + 1 => sumTo g m + g m
def allSecs (c : Cfg) : List (Nat × Nat) → Nat
  | [] => 0
  | p :: l => allSecs c l + secs c.z p.2
theorem sumTo_congr {g g' : Nat → Nat} : ∀ m, (∀ j, j < m → g j = g' j) → sumTo g m = sumTo g' m
  | 0, _ => rfl
  | m + 1, h => by unfold sumTo; rw [sumTo_congr m (fun j hj => h j (by omega)), h m (by omega)]
theorem sumTo_add (g h : Nat → Nat) : ∀ m, sumTo (fun k => g k + h k) m = sumTo g m + sumTo h m
  | 0 => rfl
  | m + 1 => by unfold sumTo; rw [sumTo_add g h m]; omega
theorem sumTo_one (x v : Nat) : ∀ m, sumTo (fun k => if x = k then v else 0) m = if x < m then v else 0
  | 0 => rfl
  | m + 1 => by
    unfold sumTo
    rw [sumTo_one x v m]
    by_cases h1 : x < m
    · rw [if_pos h1, if_neg (by omega), if_pos (by omega), Nat.add_zero]
    · rw [if_neg h1]
      by_cases h2 : x = m
      · rw [if_pos h2, if_pos (by omega)]; omega
      · rw [if_neg h2, if_neg (by omega)]
theorem sum_used (c : Cfg) (m : Nat) : ∀ l : List (Nat × Nat), (∀ p ∈ l, segOf c p.1 < m) → sumTo (fun k => usedBy c k l) m = allSecs c l
  | [], _ => by
    have : ∀ m, sumTo (fun k => usedBy c k []) m = 0 := fun m => by
      induction m with
      | zero => rfl
      | succ m ih => unfold sumTo; rw [ih]; rfl
    exact this m
  | p :: l, h => by
    have h1 := sumTo_add (fun k => usedBy c k l) (fun k => if segOf c p.1 = k then secs c.z p.2 else 0) m
    have h2 : sumTo (fun k => usedBy c k (p :: l)) m = sumTo (fun k => usedBy c k l + if segOf c p.1 = k then secs c.z p.2 else 0) m := rfl
    rw [h2, h1, sum_used c m l (fun q hq => h q (List.mem_cons_of_mem _ hq)), sumTo_one, if_pos (h p (List.mem_cons_self ..))]
    rfl
end Go.Proofs.Ytlmgihnnphmmhaa
namespace Go.Proofs.Ytlmgihnnphmmhaa
open Go.RowKit
set_option linter.unusedVariables false
set_option linter.unusedSimpArgs false

def adCells (l : List (Nat × Nat)) : List Value := l.flatMap fun p => [.int .i64 (p.1 : Nat), .int .i64 (p.2 : Nat)]
theorem adCells_app (l m : List (Nat × Nat)) : adCells (l ++ m) = adCells l ++ adCells m := by simp [adCells]
theorem adCells_length (l : List (Nat × Nat)) : (adCells l).length = l.length * 2 := by
  induction l with
  | nil => rfl
  | cons p l ih => simp only [adCells, List.flatMap_cons, List.length_append, List.length_cons, List.length_nil] at ih ⊢; omega
theorem adCells_at : ∀ (l : List (Nat × Nat)) (i : Nat) (p : Nat × Nat), l[i]? = some p → (adCells l)[i * 2]? = some (.int .i64 (p.1 : Nat)) ∧ (adCells l)[i * 2 + 1]? = some (.int .i64 (p.2 : Nat)) := by
  intro l
  induction l with
  | nil => intro i p h; simp at h
  | cons q l ih =>
    intro i p h
    cases i with
    | zero => simp at h; subst h; simp [adCells]
    | succ i =>
      have := ih i p (by simpa using h)
      simp only [adCells, List.flatMap_cons] at this ⊢
      rw [show (i + 1) * 2 = i * 2 + 2 by omega, show i * 2 + 2 + 1 = i * 2 + 1 + 2 by omega]
      simpa using this
/-- Blocks that must stay as they are. -/
structure KSt where
  kb : Nat → Option Obj
instance noKS : Inhabited KSt := ⟨⟨fun _ => none⟩⟩
def kbF [Inhabited KSt] : Nat → Option Obj := (default : KSt).kb
/-- The world at Wb; w0 is the one in which the law was called. -/
structure WoM [Inhabited KSt] (w0 w : World) (Wb D P T M : Nat) (O : Nat → Prop) (vA vL : Value) (x : WoS) : Prop where
  bx : BoxC w Wb x.s.c
  c9 : w.cell? ⟨Wb, 9, none⟩ = some (.pointer (some ⟨D, 0, none⟩))
  c10 : w.cell? ⟨Wb, 10, none⟩ = some (.pointer (some ⟨P, 0, none⟩))
  c11 : w.cell? ⟨Wb, 11, none⟩ = some vA
  c12 : w.cell? ⟨Wb, 12, none⟩ = some vL
  zf : ∀ j, w.frozen? ⟨Wb, j, none⟩ = false
  st : StAt w0.heap.size w P D T M O x.s
  rA : w.ownsRow w0.heap.size 30 2 vA x.ad.length (adCells x.ad)
  rL : w.ownsRow w0.heap.size 28 1 vL x.bl.length (x.bl.map BArg.v)
  bin : ∀ b ∈ x.bl, b.In w0 ∧ b.L.length ≤ 65536
  bel : Below w0.heap.size w0 w
  lo : w0.heap.size ≤ Wb
  dW : ¬ O Wb ∧ Wb ≠ P ∧ Wb ≠ T ∧ Wb ≠ M
  dA : ∀ g, vA.ownBlock = some g → ¬ O g ∧ g ≠ P ∧ g ≠ T ∧ g ≠ M ∧ g ≠ Wb
  dL : ∀ g, vL.ownBlock = some g → ¬ O g ∧ g ≠ P ∧ g ≠ T ∧ g ≠ M ∧ g ≠ Wb
  dAL : ∀ g, vA.ownBlock = some g → vL.ownBlock ≠ some g
  kp : ∀ g, kbF g ≠ none → w.heap[g]? = kbF g ∧ ¬ O g ∧ g ≠ P ∧ g ≠ T ∧ g ≠ M ∧ g ≠ Wb ∧ vA.ownBlock ≠ some g ∧ vL.ownBlock ≠ some g
def WoAt [Inhabited KSt] (f : Nat → Bool) (w0 w : World) (Wb : Nat) (x : WoS) : Prop := ∃ D P T M O vA vL, WoM w0 w Wb D P T M O vA vL x ∧ WoInv f x
theorem ownsRow_off {B : Nat} {w w' : World} {t : TypeId} {sz : Nat} {v : Value} {n : Nat} {xs : List Value} {S : Nat → Prop} (h : w.ownsRow B t sz v n xs) (ho : Off S w w') (hs : ∀ g, v.ownBlock = some g → ¬ S g) : w'.ownsRow B t sz v n xs := by
  refine ⟨h.1, ?_⟩
  rcases h.2 with hn | ⟨g, cap, cur, hh, hb, hgg, rest⟩
  · exact .inl hn
  · refine .inr ⟨g, cap, cur, hh, hb, ?_, rest⟩
    rw [ho.block g (Array.getElem?_eq_some_iff.1 hgg).1 (hs g (by rw [hh]; rfl))]
    exact hgg
section
variable [Inhabited KSt] {w0 w w' : World} {Wb D P T M : Nat} {O S : Nat → Prop} {vA vL : Value} {x : WoS}
theorem WoM.kpo (h : WoM w0 w Wb D P T M O vA vL x) (ho : Off S w w') (hS : ∀ g, kbF g ≠ none → ¬ S g) (g : Nat) (hg : kbF g ≠ none) : w'.heap[g]? = kbF g := by
  have h1 := (h.kp g hg).1
  have h2 : g < w.heap.size := by
    rcases Nat.lt_or_ge g w.heap.size with h2 | h2
    · exact h2
    · rw [Array.getElem?_eq_none h2] at h1; exact absurd h1.symm hg
  rw [ho.block g h2 (hS g hg)]
  exact h1
theorem WoM.lts (h : WoM w0 w Wb D P T M O vA vL x) : Wb < w.heap.size ∧ (∀ g, vA.ownBlock = some g → w0.heap.size ≤ g ∧ g < w.heap.size) ∧ (∀ g, vL.ownBlock = some g → w0.heap.size ≤ g ∧ g < w.heap.size) :=
  ⟨lt_of_cell h.c9, World.ownsRow.lt h.rA, World.ownsRow.lt h.rL⟩
theorem WoM.up (h : WoM w0 w Wb D P T M O vA vL x) (hb : Below w.heap.size w w') : WoM w0 w' Wb D P T M O vA vL x := by
  obtain ⟨l1, l2, l3⟩ := h.lts
  have c : ∀ j, w'.cell? ⟨Wb, j, none⟩ = w.cell? ⟨Wb, j, none⟩ := fun j => hb.cell (p := ⟨Wb, j, none⟩) l1
  exact ⟨h.bx.up c, (c 9).trans h.c9, (c 10).trans h.c10, (c 11).trans h.c11, (c 12).trans h.c12, fun j => (hb.frozen (p := ⟨Wb, j, none⟩) l1).trans (h.zf j), h.st.up hb, ownsRow_off h.rA (S := fun _ => False) (Off.of_below hb) (fun _ _ => id), ownsRow_off h.rL (S := fun _ => False) (Off.of_below hb) (fun _ _ => id), h.bin, below_upto h.bel hb (Nat.le_refl _), h.lo, h.dW, h.dA, h.dL, h.dAL, fun g hg => ⟨h.kpo (S := fun _ => False) (Off.of_below hb) (fun _ _ => id) g hg, (h.kp g hg).2⟩⟩
end
theorem DkAt.lower {B B' D : Nat} {w : World} {d : DkS} {O : Nat → Prop} (h : DkAt B w D d O) (hb : B' ≤ B) : DkAt B' w D d O := by
  obtain ⟨Kb, Mb, pv, P, kv, Da, hi, h2, h3⟩ := h
  exact ⟨Kb, Mb, pv, P, kv, Da, { hi with row := World.ownsRow.mono hi.row hb }, h2, fun g hg => ⟨Nat.le_trans hb (h3 g hg).1, (h3 g hg).2⟩⟩
theorem bool_info : (Try.prog.info? 4).map (fun i => (i.zero, i.size, i.bytes)) = some (some (.bool false), 1, 1) := by kernel_rfl
theorem run_make_bools (n : Nat) (hn : n ≤ 2 ^ 20) (w : World) :
    (Instr.makeSlice 57 (.int .i64 (n : Int)) (.int .i64 (n : Int))).run Try.prog w = .ok (.slice (some ⟨w.heap.size, 0, none⟩) n n) (w.alloc (.cells (madeCells #[.bool false] n) 4)) := by
  obtain ⟨i0, hi, hz0, hz1, hz2⟩ := info_parts bool_info
  have h := run_make (P := Try.prog) w 57 4 i0 _ Try.underlying57 hi hz0 .i64 .i64 n n (by omega) (by omega) (by rw [hz2]; omega) (by omega)
  rw [h]
  simp [hz1, Value.cells]
theorem SBo.made (w : World) (n : Nat) : SBo (w.alloc (.cells (madeCells #[.bool false] n) 4)) (some ⟨w.heap.size, 0, none⟩) n (fun _ => false) := fun hp => by
  have b1 := heap_alloc_new w (.cells (madeCells #[.bool false] n) 4)
  refine ⟨w.heap.size, 0, rfl, by simp, fun k hk => ?_⟩
  rw [Nat.zero_add, cell_of_row _ _ _ _ _ _ b1, made_at _ _ _ hk]
  simp [Nat.mod_one]
def wo0 (c : Cfg) (f : Nat → Bool) : WoS := ⟨st0 c (dk0 c.sectors c.z) f, [], []⟩
theorem WoInv.zero {c : Cfg} {f : Nat → Bool} (hf : ∀ k, f k = true → k < c.segs) : WoInv f (wo0 c f) := by
  refine ⟨rfl, (fun i a N b h => by simp [wo0] at h), fun k => ?_, fun k hk => ?_, rfl⟩
  · show (tbF c.segs f c.segs).us k = 0
    unfold TbS.us tbF
    simp only
    split <;> rfl
  · show (tbF c.segs f c.segs).ent k = some (2, 0)
    unfold tbF
    simp only
    rw [if_pos ⟨hf k hk, hk⟩]
def BgPost [Inhabited KSt] (f : Nat → Bool) (c : Cfg) (w0 : World) (e : Ending) (w' : World) : Prop := ∃ Wb, e = .returned (.pointer (some ⟨Wb, 0, none⟩)) ∧ WoAt f w0 w' Wb (wo0 c f)
/-- The world is built. -/
theorem WoM.made [Inhabited KSt] {w0 w1 : World} {c : Cfg} {f : Nat → Bool} {D P T M : Nat} {O : Nat → Prop} (hb : Below w0.heap.size w0 w1) (h : StAt w0.heap.size w1 P D T M O (st0 c (dk0 c.sectors c.z) f)) (hk : ∀ g, kbF g ≠ none → w1.heap[g]? = kbF g ∧ ¬ O g ∧ g ≠ P ∧ g ≠ T ∧ g ≠ M) :
    WoM w0 (w1.alloc (.cells #[.int .i64 (c.sectors : Nat), .int .i64 (c.z : Nat), .int .i64 (c.journal : Nat), .int .i64 (c.seg : Nat), .int .i64 (c.page : Nat), .int .i64 (c.frames : Nat), .int .i64 (c.procs : Nat), .int .i64 (c.regions : Nat), .int .i64 (c.pages : Nat), .pointer (some ⟨D, 0, none⟩), .pointer (some ⟨P, 0, none⟩), .slice none 0 0, .slice none 0 0] 38)) w1.heap.size D P T M O (.slice none 0 0) (.slice none 0 0) (wo0 c f) := by
  have b1 := heap_alloc_new w1 (.cells #[.int .i64 (c.sectors : Nat), .int .i64 (c.z : Nat), .int .i64 (c.journal : Nat), .int .i64 (c.seg : Nat), .int .i64 (c.page : Nat), .int .i64 (c.frames : Nat), .int .i64 (c.procs : Nat), .int .i64 (c.regions : Nat), .int .i64 (c.pages : Nat), .pointer (some ⟨D, 0, none⟩), .pointer (some ⟨P, 0, none⟩), .slice none 0 0, .slice none 0 0] 38)
  obtain ⟨l1, l2, l3, l4⟩ := h.lts
  refine ⟨?_, by rw [cell_of_row _ _ _ _ _ _ b1]; rfl, by rw [cell_of_row _ _ _ _ _ _ b1]; rfl, by rw [cell_of_row _ _ _ _ _ _ b1]; rfl, by rw [cell_of_row _ _ _ _ _ _ b1]; rfl, fun j => frozen_of_row _ _ _ _ _ b1, h.up ((Below.refl _ _).alloc (Nat.le_refl _) _), World.ownsRow_nil _ _ _ _, World.ownsRow_nil _ _ _ _, (fun b hb => by cases hb), hb.alloc hb.size _, hb.size, ⟨fun e => by have := (l4 _ e).2; omega, by omega, by omega, by omega⟩, (fun g e => by cases e), (fun g e => by cases e), (fun g e => by cases e), fun g hg => ?_⟩
  rotate_left
  · obtain ⟨k1, k2, k3, k4, k5⟩ := hk g hg
    have h2 : g < w1.heap.size := by
      rcases Nat.lt_or_ge g w1.heap.size with h2 | h2
      · exact h2
      · rw [Array.getElem?_eq_none h2] at k1; exact absurd k1.symm hg
    exact ⟨by rw [(Off.of_below (S := fun _ => False) ((Below.refl _ _).alloc (Nat.le_refl _) _)).block g h2 id]; exact k1, k2, k3, k4, k5, by omega, (by intro e; cases e), (by intro e; cases e)⟩
  unfold BoxC
  refine ⟨?_, ?_, ?_, ?_, ?_, ?_, ?_, ?_, ?_⟩ <;> (rw [cell_of_row _ _ _ _ _ _ b1]; rfl)
set_option maxRecDepth 100000 in
set_option maxHeartbeats 4000000 in
theorem begun_any (w : World) {c : Cfg} (h : c.Ok) : Calls Try.prog 12 #[c.val] w (BgPost (fun _ => false) c w) := by
  have h0 := h.h0
  have h1 := h.h1
  have hroom := h.room
  have hbx := BoxC.made w c
  have HB : Hid (Below w.heap.size w (w.alloc (.cells c.cells 23))) := (Below.refl _ _).alloc (Nat.le_refl _) _
  have HOK := Lib.hid h
  have HDN : Hid (∀ w', Calls Try.prog 26 #[.int .i64 (c.sectors : Nat), .int .i64 (c.z : Nat)] w' _) := fun w' => dkNew_any w' (S := c.sectors) (z := c.z) (by omega)
  have HSG : Hid (∀ w', Calls Try.prog 19 #[c.val] w' fun e w'' => e = .returned (.int .i64 (c.segs : Nat)) ∧ Below w'.heap.size w' w'') := fun w' => rSegments_any w' h.pl
  have HMK := Lib.hid (run_make_bools c.segs (by omega))
  clear h
  unfold Cfg.val at *
  unfold Cfg.cells at *
  go_enter Try.func12, Try.ntmps12
  go_upto_region 1 with (fail)
  refine wp_forget (fun W => BoxC W w.heap.size c ∧ Below w.heap.size w W ∧ w.heap.size < W.heap.size) ⟨hbx, HB.out, by simp⟩ ?_
  clear hbx HB
  rintro W ⟨⟨q0, q1, q2, q3, q4, q5, q6, q7, q8⟩, hbW, hl⟩
  have HBW := Lib.hid hbW
  clear hbW
  go_wp2_with fail
  refine (HDN.out _).mono ?_
  rintro _ w1 ⟨D, rfl, hb1, O, hd⟩
  have HD := Lib.hid (hd.lower (Nat.le_of_lt hl))
  have HB1 : Hid (Below w.heap.size w w1) := below_upto HBW.out hb1 (Nat.le_refl _)
  have hl1 : w.heap.size < w1.heap.size := Nat.lt_of_lt_of_le hl hb1.size
  have p0 := (hb1.cell (p := ⟨w.heap.size, 0, none⟩) hl).trans q0
  have p1 := (hb1.cell (p := ⟨w.heap.size, 1, none⟩) hl).trans q1
  have p2 := (hb1.cell (p := ⟨w.heap.size, 2, none⟩) hl).trans q2
  have p3 := (hb1.cell (p := ⟨w.heap.size, 3, none⟩) hl).trans q3
  have p4 := (hb1.cell (p := ⟨w.heap.size, 4, none⟩) hl).trans q4
  have p5 := (hb1.cell (p := ⟨w.heap.size, 5, none⟩) hl).trans q5
  have p6 := (hb1.cell (p := ⟨w.heap.size, 6, none⟩) hl).trans q6
  have p7 := (hb1.cell (p := ⟨w.heap.size, 7, none⟩) hl).trans q7
  have p8 := (hb1.cell (p := ⟨w.heap.size, 8, none⟩) hl).trans q8
  clear q0 q1 q2 q3 q4 q5 q6 q7 q8 hb1 hd HDN HBW
  go_upto_region 4 with (fail)
  have hmk := HMK.out
  have HS : Hid (∀ w', Below w1.heap.size w1 w' → w'.cell? ⟨w.heap.size, 0, none⟩ = some (.int .i64 (c.sectors : Nat)) ∧ w'.cell? ⟨w.heap.size, 1, none⟩ = some (.int .i64 (c.z : Nat)) ∧ w'.cell? ⟨w.heap.size, 2, none⟩ = some (.int .i64 (c.journal : Nat)) ∧ w'.cell? ⟨w.heap.size, 3, none⟩ = some (.int .i64 (c.seg : Nat)) ∧ w'.cell? ⟨w.heap.size, 4, none⟩ = some (.int .i64 (c.page : Nat)) ∧ w'.cell? ⟨w.heap.size, 5, none⟩ = some (.int .i64 (c.frames : Nat)) ∧ w'.cell? ⟨w.heap.size, 6, none⟩ = some (.int .i64 (c.procs : Nat)) ∧ w'.cell? ⟨w.heap.size, 7, none⟩ = some (.int .i64 (c.regions : Nat)) ∧ w'.cell? ⟨w.heap.size, 8, none⟩ = some (.int .i64 (c.pages : Nat))) := fun w' hb =>
    ⟨(hb.cell (p := ⟨w.heap.size, 0, none⟩) hl1).trans p0, (hb.cell (p := ⟨w.heap.size, 1, none⟩) hl1).trans p1, (hb.cell (p := ⟨w.heap.size, 2, none⟩) hl1).trans p2, (hb.cell (p := ⟨w.heap.size, 3, none⟩) hl1).trans p3, (hb.cell (p := ⟨w.heap.size, 4, none⟩) hl1).trans p4, (hb.cell (p := ⟨w.heap.size, 5, none⟩) hl1).trans p5, (hb.cell (p := ⟨w.heap.size, 6, none⟩) hl1).trans p6, (hb.cell (p := ⟨w.heap.size, 7, none⟩) hl1).trans p7, (hb.cell (p := ⟨w.heap.size, 8, none⟩) hl1).trans p8⟩
  have HNW : Hid (∀ w2, Below w1.heap.size w1 w2 → Calls Try.prog 27 #[c.val, .pointer (some ⟨D, 0, none⟩), .slice (some ⟨w2.heap.size, 0, none⟩) c.segs c.segs] (w2.alloc (.cells (madeCells #[.bool false] c.segs) 4)) (NwPost w.heap.size (w2.alloc (.cells (madeCells #[.bool false] c.segs) 4)) D O (st0 c (dk0 c.sectors c.z) (fun _ => false)))) := fun w2 hb =>
    stNew_any (B := w.heap.size) _ HOK.out (HD.out.up (hb.alloc hb.size _)) rfl rfl (SBo.made w2 c.segs) (Nat.le_trans HB1.out.size (Nat.le_trans hb.size (by simp)))
  unfold Cfg.val at HNW
  go_region_held3 (fun w' => w'.cell? ⟨w.heap.size, 0, none⟩ = some (.int .i64 (c.sectors : Nat)) ∧ w'.cell? ⟨w.heap.size, 1, none⟩ = some (.int .i64 (c.z : Nat)) ∧ w'.cell? ⟨w.heap.size, 2, none⟩ = some (.int .i64 (c.journal : Nat)) ∧ w'.cell? ⟨w.heap.size, 3, none⟩ = some (.int .i64 (c.seg : Nat)) ∧ w'.cell? ⟨w.heap.size, 4, none⟩ = some (.int .i64 (c.page : Nat)) ∧ w'.cell? ⟨w.heap.size, 5, none⟩ = some (.int .i64 (c.frames : Nat)) ∧ w'.cell? ⟨w.heap.size, 6, none⟩ = some (.int .i64 (c.procs : Nat)) ∧ w'.cell? ⟨w.heap.size, 7, none⟩ = some (.int .i64 (c.regions : Nat)) ∧ w'.cell? ⟨w.heap.size, 8, none⟩ = some (.int .i64 (c.pages : Nat)))
    (first | exact HS.out _ HB3.out | exact HS.out _ HB2.out | exact HS.out _ (HB2.out.alloc HB2.out.size _) | go_keep)
    ((first | (go_at_call 19; refine (HSG.out _).mono ?_; rintro _ w2 ⟨rfl, hb2⟩; have HB2 : Hid (Below w1.heap.size w1 w2) := ((Below.refl _ _).drew).trans hb2; clear hb2) | (go_at_call 27; refine (HNW.out w2 HB2.out).mono ?_; rintro _ w3 ⟨P, rfl, hb3, T, M, hst⟩; have HST := Lib.hid hst; have HB3 : Hid (Below w1.heap.size w1 w3) := below_upto (HB2.out.alloc HB2.out.size _) hb3 (Nat.le_refl _); clear hst hb3)))
  have HM : Hid (∀ cs, cs = #[Value.int .i64 (c.sectors : Nat), .int .i64 (c.z : Nat), .int .i64 (c.journal : Nat), .int .i64 (c.seg : Nat), .int .i64 (c.page : Nat), .int .i64 (c.frames : Nat), .int .i64 (c.procs : Nat), .int .i64 (c.regions : Nat), .int .i64 (c.pages : Nat), .pointer (some ⟨D, 0, none⟩), .pointer (some ⟨P, 0, none⟩), .slice none 0 0, .slice none 0 0] → WoM w (w3.alloc (.cells cs 38)) w3.heap.size D P T M O (.slice none 0 0) (.slice none 0 0) (wo0 c (fun _ => false))) := fun cs e => by
    rw [e]
    exact WoM.made (HB1.out.trans (HB3.out.mono HB1.out.size)) HST.out (fun g hg => absurd rfl hg)
  have k0 := (HS.out w3 HB3.out)
  obtain ⟨p0, p1, p2, p3, p4, p5, p6, p7, p8⟩ := k0
  clear HS HMK hmk HSG HNW HD HST HB2
  go_wp2
  go_ret
  exact ⟨_, rfl, D, P, T, M, O, _, _, HM.out _ rfl, WoInv.zero (fun _ h => by cases h)⟩
end Go.Proofs.Ytlmgihnnphmmhaa
