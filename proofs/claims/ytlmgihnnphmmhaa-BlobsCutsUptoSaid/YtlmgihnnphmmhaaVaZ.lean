/- BlobsCuts, plain: what was flushed stays, whatever is put and cut behind it. -/
import Derived.Test.YtlmgihnnphmmhaaSbZ
import Derived.Test.YtlmgihnnphmmhaaPfZ
namespace Go.Proofs.Ytlmgihnnphmmhaa
open Go.RowKit
set_option linter.unusedVariables false
set_option linter.unusedSimpArgs false

/-! ### the disk -/
theorem setl_other {keep : Nat → Bool} {pend : List (Nat × Bytes)} {k : Nat → Option Bytes} {s : Nat} (h : ∀ p ∈ pend, p.1 ≠ s) : ∀ j, setl keep pend k j s = k s
  | 0 => rfl
  | j + 1 => by
    cases hp : pend[j]? with
    | none => simp [setl, hp, setl_other h j]
    | some p =>
      cases hk : keep j with
      | true =>
        rw [setl_step hp hk]
        unfold setKept
        rw [if_neg (fun e => h p (List.mem_of_getElem? hp) e.symm)]
        exact setl_other h j
      | false =>
        rw [setl_skip hp hk]
        exact setl_other h j
theorem setl_all (pend : List (Nat × Bytes)) (k : Nat → Option Bytes) (s : Nat) : ∀ j, j ≤ pend.length → setl (fun _ => true) pend k j s = match lastOf (pend.take j) s with
    | some i => some (pend.getD i (0, [])).2
    | none => k s
  | 0, _ => by rw [List.take_zero, lastOf_nil]; rfl
  | j + 1, hj => by
    have hl : j < pend.length := hj
    have hp : pend[j]? = some pend[j] := List.getElem?_eq_getElem hl
    rw [setl_step hp rfl, List.take_add_one, hp]
    show setKept _ _ _ _ = match lastOf (pend.take j ++ [pend[j]]) s with
      | some i => some (pend.getD i (0, [])).2
      | none => k s
    rw [lastOf_snoc]
    unfold setKept
    by_cases h : s = pend[j].1
    · rw [if_pos h, if_pos h.symm, List.length_take, Nat.min_eq_left (by omega)]
      simp [List.getD_eq_getElem?_getD, hp]
    · rw [if_neg h, if_neg (fun e => h e.symm)]
      exact setl_all pend k s j (by omega)
theorem settle_read (d : DkS) (k : Nat) : (d.settle fun _ => true).read k = d.read k := by
  have h := setl_all d.pend d.kept k d.pend.length (Nat.le_refl _)
  rw [List.take_length] at h
  show (setl (fun _ => true) d.pend d.kept d.pend.length k).getD (zeros d.z) = d.read k
  rw [h]
  unfold DkS.read DkS.keptB
  cases lastOf d.pend k <;> rfl
theorem read_kept {d : DkS} (h : d.pend = []) (k : Nat) : d.read k = d.keptB k := by
  unfold DkS.read
  rw [h, lastOf_nil]
theorem settle_keptB {keep : Nat → Bool} {d : DkS} {k : Nat} (h : ∀ p ∈ d.pend, p.1 ≠ k) : (d.settle keep).keptB k = d.keptB k := by
  show (setl keep d.pend d.kept d.pend.length k).getD (zeros d.z) = _
  rw [setl_other h]
  rfl
theorem putN_mem {d : DkS} {a : Nat} {F : Bytes} {p : Nat × Bytes} : ∀ i, p ∈ (d.putN a F i).pend → p ∈ d.pend ∨ (a ≤ p.1 ∧ p.1 < a + i)
  | 0, h => .inl h
  | i + 1, h => by
    have h' : p ∈ (d.putN a F i).pend ++ [(a + i, sec d.z F i)] := h
    rcases List.mem_append.1 h' with h1 | h1
    · exact (putN_mem i h1).imp id fun h2 => by omega
    · rw [List.mem_singleton] at h1
      subst h1
      exact .inr (by simp)
theorem putN_keptB (d : DkS) (a : Nat) (F : Bytes) (i k : Nat) : (d.putN a F i).keptB k = d.keptB k := by
  unfold DkS.keptB
  rw [putN_kept, putN_z]
theorem unFrame_er (F : Bytes) (n : Nat) : (unFrame F n).2 = 0 ∨ (unFrame F n).2 = 20 := by
  unfold unFrame
  by_cases h1 : (rdFrame F).2.2.2 ≠ 0
  · rw [if_pos h1]; exact .inr rfl
  rw [if_neg h1]
  by_cases h2 : (rdFrame F).1 ≠ 1
  · rw [if_pos h2]; exact .inr rfl
  rw [if_neg h2]
  by_cases h3 : (rdFrame F).2.2.1 ≠ n
  · rw [if_pos h3]; exact .inr rfl
  rw [if_neg h3]
  by_cases h4 : (unpackB 1048576 (rdFrame F).2.1).2 ≠ 0
  · rw [if_pos h4]; exact .inr rfl
  · rw [if_neg h4]; exact .inl rfl

/-! ### the laws' world -/
/-- The first n blobs are kept, whatever of the pending is. -/
def KeptN (x : WoS) (n : Nat) : Prop := ∀ (i a N : Nat) (b : BArg), i < n → x.ad[i]? = some (a, N) → x.bl[i]? = some b → ∀ j, j < secs x.s.c.z N → x.s.d.keptB (a + j) = sec x.s.c.z (padF x.s.c.z (putF b.L)) j ∧ ∀ p ∈ x.s.d.pend, p.1 ≠ a + j
/-- Without blobs, all is free. -/
def Em (x : WoS) : Prop := x.ad = [] → x.s.op = none ∧ ∀ k, x.s.t.ent k = none
theorem Em.zero (c : Cfg) : Em (wo0 c (fun _ => false)) := fun _ => ⟨rfl, fun k => by show (tbF c.segs (fun _ => false) c.segs).ent k = none; unfold tbF; simp⟩
theorem Em.room {x : WoS} (h : Em x) (hs : StOk x.s) (he : x.ad = []) (n : Nat) : ¬ NoRoom x.s n := fun hn => by
  obtain ⟨_, h2⟩ := h he
  have h3 := hn.2 0 (by rw [hs.tn]; have := hs.ok.hs; omega)
  exact h3 (by unfold TbS.st; rw [h2]; rfl)
/-- Behind a Flush, or a Seal. -/
structure Settled (s s' : StS) : Prop where
  c : s'.c = s.c
  d : s'.d = s.d.settle fun _ => true
  us : ∀ k, s'.t.us k = s.t.us k
  en : ∀ k, s.t.ent k ≠ none → s'.t.ent k ≠ none
  op : s'.op = none ∨ (s'.op = s.op ∧ s'.us = s.us)
  em : s.op = none → (∀ k, s.t.ent k = none) → s'.op = none ∧ ∀ k, s'.t.ent k = none
theorem Settled.flush (s : StS) : Settled s { s with d := s.d.settle fun _ => true } := ⟨rfl, rfl, fun _ => rfl, fun _ => id, .inr ⟨rfl, rfl⟩, fun h1 h2 => ⟨h1, h2⟩⟩
theorem Settled.shut {s : StS} (h : StOk s) : Settled s (StS.fill { s with d := s.d.settle fun _ => true }) := by
  refine ⟨rfl, rfl, fun k => ?_, fun k hk => ?_, .inl rfl, fun h1 h2 => ⟨rfl, fun k => ?_⟩⟩
  · show (fillT s.t s.op).us k = _
    unfold TbS.us
    rw [fillT_ent h]
    split
    · cases s.t.ent k <;> rfl
    · rfl
  · show (fillT s.t s.op).ent k ≠ none
    rw [fillT_ent h]
    split
    · simpa using hk
    · exact hk
  · show (fillT s.t s.op).ent k = none
    rw [fillT_ent h, h1, h2]
    simp
theorem Settled.inv {s' : StS} {x : WoS} (h : Settled x.s s') (hi : WoInv (fun _ => false) x) : WoInv (fun _ => false) ⟨s', x.ad, x.bl⟩ := by
  refine ⟨hi.len, fun i a N b h1 h2 => ?_, fun k => ?_, (fun k hk => by cases hk), ?_⟩
  · obtain ⟨k, hp⟩ := hi.pl i a N b h1 h2
    refine ⟨k, ?_, hp.hN, fun i hi => ?_, h.en k hp.en, fun e => ?_, rfl⟩
    · show RightN s'.c a N k
      rw [h.c]; exact hp.r
    · simp only at hi ⊢
      rw [h.c] at hi
      rw [h.d, settle_read, h.c]
      exact hp.rd i hi
    · simp only at e ⊢
      rcases h.op with h3 | ⟨h3, h4⟩
      · rw [h3] at e; cases e
      · rw [h.c, h4]
        exact hp.be (h3.symm.trans e)
  · simp only
    rw [h.us, h.c]
    exact hi.us k
  · simp only
    rw [h.d]
    exact hi.on
theorem Settled.kept {s' : StS} {x : WoS} (h : Settled x.s s') (hi : WoInv (fun _ => false) x) : KeptN ⟨s', x.ad, x.bl⟩ x.ad.length := fun i a N b hl h1 h2 j hj => by
  obtain ⟨k, hp⟩ := hi.pl i a N b h1 h2
  simp only at hj ⊢
  rw [h.c] at hj ⊢
  have h3 : s'.d.pend = [] := by rw [h.d]; rfl
  refine ⟨?_, fun p hm => by rw [h3] at hm; cases hm⟩
  rw [← read_kept h3, h.d, settle_read]
  exact hp.rd j hj
theorem Settled.emp {s' : StS} {x : WoS} (h : Settled x.s s') (he : Em x) : Em ⟨s', x.ad, x.bl⟩ := fun h0 => h.em (he h0).1 (he h0).2
theorem shut_open {s : StS} (h : StOk s) : (s.fill).t.cnt 1 (s.fill).t.n = 0 := by
  have h1 := h.fill
  refine cnt_zero _ fun j _ e => ?_
  unfold TbS.st at e
  cases he : s.fill.t.ent j with
  | none => rw [he] at e; cases e
  | some q =>
    obtain ⟨a, b⟩ := q
    rw [he] at e
    simp at e
    subst e
    have := h1.one j b he
    cases this

/-! ### the loops of puts -/
/-- The worlds of BlobsCuts behind i puts; the first n blobs are kept. -/
def PutsX [Inhabited KSt] (w0 : World) (Wb : Nat) (c : Cfg) (n i : Nat) (wr : World) : Prop :=
  ∃ x, WoAt (fun _ => false) w0 wr Wb x ∧ x.s.c = c ∧ x.s.d.pend.length ≤ i * 4096 ∧ x.ad.length ≤ i ∧ n ≤ x.ad.length ∧ KeptN x n ∧ Em x
section
variable [Inhabited KSt] {w0 w : World} {Wb : Nat} {x : WoS}
theorem PutsX.zero {c : Cfg} (h : WoAt (fun _ => false) w0 w Wb (wo0 c (fun _ => false))) : PutsX w0 Wb c 0 0 w := ⟨_, h, rfl, Nat.zero_le _, Nat.zero_le _, Nat.zero_le _, (fun i a N b hi => by omega), Em.zero c⟩
theorem PutsX.bel {c : Cfg} {n i : Nat} (h : PutsX w0 Wb c n i w) : Below w0.heap.size w0 w := by
  obtain ⟨x, ⟨D, P, T, M, O, vA, vL, hm, hi⟩, _⟩ := h
  exact hm.bel
theorem PutsX.put {c : Cfg} {n i : Nat} (h : PutsX w0 Wb c n i w) {b : BArg} (hb : b.In w0) (hn : b.n ≤ 65536) (hfs : c.sectors ≤ 3000) (hfz : c.z ≤ 512) (hi : i ≤ 180) :
    Calls Try.prog 17 #[.pointer (some ⟨Wb, 0, none⟩), b.v] w fun e w' => e = .returned (.bool true) ∧ PutsX w0 Wb c n (i + 1) w' := by
  obtain ⟨x, h1, h2, h3, h4, h5, h6, h7⟩ := h
  refine (put9_any h1 hb hn (by rw [h2]; exact hfs) (by rw [h2]; exact hfz) (by omega) (by omega)).mono fun e w' hq => ?_
  obtain ⟨he, x', q1, q2, q3, q4⟩ := hq
  refine ⟨he, x', q1, q2.trans h2, by omega, ?_⟩
  rcases q4 with rfl | ⟨k, u, hr, hle, rfl⟩
  · exact ⟨by omega, h5, h6, h7⟩
  · obtain ⟨D, P, T, M, O, vA, vL, hm, hii⟩ := h1
    have htb : ∀ k e, x.s.t.ent k = some e → k < x.s.t.n ∧ 0 < e.1 := fun k e he => ⟨(hm.st.tb.ok k e he).1, (hm.st.tb.ok k e he).2.1⟩
    obtain ⟨_, _, hdis⟩ := hii.put hm.st.ok hr htb (by rw [hb.1.len]; exact hn) hle
    refine ⟨by simp; omega, by simp; omega, fun i a N b' hl g1 g2 j hj => ?_, fun h0 => by simp at h0⟩
    simp only at g1 g2 hj ⊢
    have hl1 : i < x.ad.length := by omega
    rw [List.getElem?_append_left hl1] at g1
    rw [List.getElem?_append_left (by rw [← hii.len]; exact hl1)] at g2
    obtain ⟨r1, r2⟩ := h6 i a N b' hl g1 g2 j hj
    have hd := hdis i a N g1
    have hj' : j < secs x.s.c.z N := hj
    refine ⟨?_, fun p hp => ?_⟩
    · show (x.s.d.putN _ _ _).keptB (a + j) = _
      rw [putN_keptB]
      exact r1
    · rcases putN_mem _ hp with hp | ⟨hp1, hp2⟩
      · exact r2 p hp
      · omega
end

/-! ### behind the cut -/
/-- What Get tells at the end. -/
def FinT (x : WoS) (n : Nat) : Prop := ∀ (i a N : Nat) (b : BArg), x.ad[i]? = some (a, N) → x.bl[i]? = some b → (∃ k, RightN x.s.c a N k) ∧ (i < n → x.s.d.getB a N = (b.L, 0)) ∧ ((x.s.d.getB a N).2 = 0 ∨ (x.s.d.getB a N).2 = 20)
theorem KeptN.fin {x : WoS} {n : Nat} (h : KeptN x n) (hi : WoInv (fun _ => false) x) (hs : StOk x.s) (hb : ∀ b ∈ x.bl, b.L.length ≤ 65536) (keep : Nat → Bool) :
    FinT ⟨{ x.s with d := ⟨x.s.d.S, x.s.d.z, (x.s.d.settle keep).kept, [], false⟩ }, x.ad, x.bl⟩ n := fun i a N b h1 h2 => by
  obtain ⟨k, hp⟩ := hi.pl i a N b h1 h2
  refine ⟨⟨k, hp.r⟩, fun hl => ?_, unFrame_er _ _⟩
  have hs' : StOk { x.s with d := ⟨x.s.d.S, x.s.d.z, (x.s.d.settle keep).kept, [], false⟩ } := ⟨hs.ok, hs.dS, hs.dz, hs.tn, hs.opn, hs.one, hs.usl, hs.us0, hs.uk⟩
  have hp' : Placed (fun _ => false) { x.s with d := ⟨x.s.d.S, x.s.d.z, (x.s.d.settle keep).kept, [], false⟩ } a N b.L k := by
    refine ⟨hp.r, hp.hN, fun j hj => ?_, hp.en, hp.be, rfl⟩
    obtain ⟨r1, r2⟩ := h i a N b hl h1 h2 j hj
    rw [read_kept rfl]
    have h3 := settle_keptB (keep := keep) (d := x.s.d) r2
    exact h3.trans r1
  exact hp'.get hs' (hb b (List.mem_of_getElem? h2))
theorem nil_n : 13 ≤ (putF []).length ∧ (putF []).length ≤ 14 := by
  have h1 := putF_le []
  have h3 := putF_length []
  simp at h1
  omega
end Go.Proofs.Ytlmgihnnphmmhaa
