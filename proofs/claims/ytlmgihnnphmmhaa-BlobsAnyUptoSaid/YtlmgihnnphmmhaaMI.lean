/- lz.greedy's places: a map of rows of ints; note. slices.Backward over ints: the iterator's contract. lz.greedy: what holds between two rounds. -/
import Derived.Test.YtlmgihnnphmmhaaLeZ
import Derived.Test.YtlmgihnnphmmhaaMH
import Derived.RangeFuncWrites
import Derived.RangeFuncNested
import Derived.RangeFuncBound
import Derived.RangeFuncCalls
import Derived.RangeFuncLeaves
import Derived.Shelf.Abstract
import Derived.Shelf.RegionOpen
import Derived.OwnWalkIn
import Derived.TacticsInMore
import Derived.LoopNIn
import Derived.LoopIn
namespace Go.Proofs.Ytlmgihnnphmmhaa
open Go.RowKit Go.Maps
set_option linter.unusedVariables false
set_option linter.unusedSimpArgs false

def iv (i : Nat) : Value := .int .i64 (i : Nat)
/-- The ints L, in a row of the call's own (from block B on). -/
def OwI (B : Nat) (w : World) (v : Value) (L : List Nat) : Prop := w.ownsRow B 3 1 v L.length (L.map iv)
section
variable {B : Nat} {w : World} {v : Value} {L : List Nat}
theorem OwI.lt (h : OwI B w v L) : ∀ k, v.ownBlock = some k → B ≤ k ∧ k < w.heap.size := World.ownsRow.lt h
theorem OwI.off (h : OwI B w v L) {S : Nat → Prop} {w' : World} (ho : Off S w w') (hs : ∀ k, v.ownBlock = some k → ¬ S k) : OwI B w' v L := by
  refine ⟨h.1, ?_⟩
  rcases h.2 with hn | ⟨g, cap, cur, rfl, hb, hgg, rest⟩
  · exact .inl hn
  · refine .inr ⟨g, cap, cur, rfl, hb, ?_, rest⟩
    rw [ho.block g (Array.getElem?_eq_some_iff.1 hgg).1 (hs g rfl)]
    exact hgg
theorem OwI.empty (B : Nat) (w : World) : OwI B w (.slice none 0 0) [] := World.ownsRow_nil _ _ _ _
theorem OwI.form (h : OwI B w v L) : ∃ A c, v = .slice A L.length c ∧ L.length ≤ c ∧ (0 < L.length → ∃ g, A = some ⟨g, 0, none⟩ ∧ g < w.heap.size ∧ B ≤ g ∧ ∀ k, k < L.length → w.cell? ⟨g, 0 + k, none⟩ = some (iv (L.getD k 0))) := by
  rcases h.2 with ⟨rfl, h0⟩ | ⟨g, cap, cur, rfl, hb, hg, h1, h2, h3, h4⟩
  · have : L = [] := by simpa using h0
    subst this
    exact ⟨_, _, rfl, by simp, fun h => by simp at h⟩
  · have hl := (Array.getElem?_eq_some_iff.1 hg).1
    refine ⟨_, _, rfl, h1, fun hp => ⟨g, rfl, hl, hb, fun k hk => ?_⟩⟩
    have := World.ownsRow.cells h (g := g) rfl k (iv (L[k])) (by simp [hk])
    rw [show (⟨g, 0, none⟩ : Addr).add k = ⟨g, 0 + k, none⟩ by unfold Addr.add; split <;> simp_all] at this
    rw [this]
    simp [List.getD_eq_getElem?_getD, hk]
end
theorem int_info : (Try.prog.info? 3).map (fun i => (i.zero, i.size, i.bytes)) = some (some (.int .i64 0), 1, 8) := by kernel_rfl
/-- append of one int. -/
theorem run_appI {B : Nat} {w : World} {v : Value} {L : List Nat} {g i : Nat} (hown : OwI B w v L) (hc : w.cell? ⟨g, 0, none⟩ = some (iv i)) (hB : B ≤ w.heap.size) (hlen : L.length ≤ 1048576) (ty : TypeId) :
    ∃ v' w', (Builtin.append_ #[141, 141] ty #[v, .slice (some ⟨g, 0, none⟩) 1 1]).run Try.prog w = .ok v' w' ∧ OwI B w' v' (L ++ [i]) ∧ w.grownBy w' v.ownBlock ∧ (v'.ownBlock = v.ownBlock ∨ v'.ownBlock = some w.heap.size) := by
  obtain ⟨i0, hi, hz0, hz1, hz2⟩ := info_parts int_info
  obtain ⟨v', w', hr, ho, hg, _, hat⟩ := run_append_own_at (P := Try.prog) w B 141 ty 3 i0 (.int .i64 0) 1 8 Try.underlying141 hi hz0 hz1 hz2 rfl (by omega) v L.length (L.map iv) hown ⟨g, 0, none⟩ 1 1 [iv i]
    rfl (fun j u hj => by
      have : j = 0 := by
        rcases Nat.eq_zero_or_pos j with h | h
        · exact h
        · rw [List.getElem?_eq_none (by simp; omega)] at hj; cases hj
      subst this
      simp at hj
      rw [show (⟨g, 0, none⟩ : Addr).add 0 = ⟨g, 0, none⟩ by simp [Addr.add], hc, hj]) (fun u hu => by
      simp only [List.mem_singleton] at hu
      subst hu
      simp [iv, Value.oneCell']) (by unfold maxLen; omega) (by omega) hB
  refine ⟨v', w', hr, ?_, hg, hat⟩
  unfold OwI
  rw [List.length_append, List.map_append]
  exact ho

/-- The places seen so far: block M is a map from keys to rows of places (the blocks Bs). -/
def SeenAt (B : Nat) (w : World) (M : Nat) (b : Bytes) (N : List Nat) (Bs : Nat → Prop) : Prop :=
  ∃ (f : Value → Option Value) (c : Nat), MapIs Try.prog 76 w M f c ∧
    (∀ k : Nat, seenL b N k = [] → f (.int .u32 k) = none) ∧
    (∀ k : Nat, seenL b N k ≠ [] → ∃ v, f (.int .u32 k) = some v ∧ OwI B w v (seenL b N k) ∧ ∀ g, v.ownBlock = some g → Bs g) ∧
    (∀ (k k' : Nat) v v' g, f (.int .u32 k) = some v → f (.int .u32 k') = some v' → v.ownBlock = some g → v'.ownBlock = some g → k = k') ∧ ¬ Bs M ∧ (∀ g, Bs g → B ≤ g ∧ g < w.heap.size)
theorem SeenAt.start (B : Nat) (w : World) (b : Bytes) : SeenAt B (w.alloc (.map #[] 0)) w.heap.size b [] (fun _ => False) :=
  ⟨fun _ => none, 0, MapIs.made w, fun _ _ => rfl, fun k h => absurd rfl h, (fun k k' v v' g h => by cases h), id, fun g h => h.elim⟩
theorem SeenAt.off {B : Nat} {w w' : World} {M : Nat} {b : Bytes} {N : List Nat} {Bs S : Nat → Prop} (h : SeenAt B w M b N Bs) (ho : Off S w w') (hM : ¬ S M) (hs : ∀ k, Bs k → ¬ S k) : SeenAt B w' M b N Bs := by
  obtain ⟨f, c, hm, h1, h2, h3, h4, h5⟩ := h
  refine ⟨f, c, hm.off ho hM, h1, fun k hk => ?_, h3, h4, fun g hg => ⟨(h5 g hg).1, Nat.lt_of_lt_of_le (h5 g hg).2 ho.size⟩⟩
  obtain ⟨v, hv, ho2, hb⟩ := h2 k hk
  exact ⟨v, hv, ho2.off ho (fun g hg => hs g (hb g hg)), hb⟩
theorem SeenAt.lt {B : Nat} {w : World} {M : Nat} {b : Bytes} {N : List Nat} {Bs : Nat → Prop} (h : SeenAt B w M b N Bs) : M < w.heap.size := by
  obtain ⟨f, c, hm, _⟩ := h
  exact hm.lt
theorem u32Keyed : Keyed Try.prog 76 := int_keyed Try.underlying76
theorem zeroInts (w : World) : (zeroValue 141).run Try.prog w = .ok (.slice none 0 0) w := by kernel_rfl
theorem u32_key {k : Nat} (h : k < 4294967296) : keyOf Try.prog 76 (.int .u32 k) = some (.int .u32 k) := by
  refine keyOf_int_mk Try.underlying76 ?_
  simp only [Lit.wf, Bool.and_eq_true, decide_eq_true_eq]
  rw [show IntKind.u32.min = 0 by rfl, show IntKind.u32.max = 4294967295 by rfl]
  omega
/-- The places of a key, as a value. -/
def rowOf (f : Value → Option Value) (k : Nat) : Value := (f (.int .u32 k)).getD (.slice none 0 0)
theorem SeenAt.row {B : Nat} {w : World} {M : Nat} {b : Bytes} {N : List Nat} {Bs : Nat → Prop} (h : SeenAt B w M b N Bs) (k : Nat) (hk : k < 4294967296) :
    ∃ v, (∀ w', Off (fun _ => False) w w' → (Instr.lookup 139 (.map (some M)) (.int .u32 k) false).run Try.prog w' = .ok v w') ∧ OwI B w v (seenL b N k) ∧ (∀ g, v.ownBlock = some g → Bs g) := by
  obtain ⟨f, c, hm, h1, h2, h3, h4, h5⟩ := h
  have hr := fun w' (ho : Off (fun _ => False) w w') => (hm.off ho id).look u32Keyed Try.underlying139 (zeroInts w') (u32_key hk) false
  by_cases hn : seenL b N k = []
  · rw [h1 k hn] at hr
    exact ⟨_, hr, by rw [hn]; exact OwI.empty _ _, fun g hg => by cases hg⟩
  · obtain ⟨v, hv, ho, hb⟩ := h2 k hn
    rw [hv] at hr
    exact ⟨v, hr, ho, hb⟩
theorem step_appI {ops : Array Oper} {o : Oper} {a : Act} {w : World} {K : Act → World → Prop} {Q : Exit → Act → World → Prop} {E : Prop} (hgd : o.guard = none) (s x : Operand)
    (ho : o.op = .call { callee := .builtin .append, args := #[s, x], argTypes := #[141, 141] }) (B : Nat) (v : Value) (L : List Nat) (g i : Nat) (hs : a.eval s = v) (hown : OwI B w v L) (hx : a.eval x = .slice (some ⟨g, 0, none⟩) 1 1)
    (hc : w.cell? ⟨g, 0, none⟩ = some (iv i)) (hB : B ≤ w.heap.size) (hlen : L.length ≤ 1048576)
    (h : ∀ v' w', OwI B w' v' (L ++ [i]) → w.grownBy w' v.ownBlock → (v'.ownBlock = v.ownBlock ∨ v'.ownBlock = some w.heap.size) → K (a.put o.dst v') w') :
    if Region.wanted o (yielded ops a.tmps) = true then Oper.wp Try.prog o a w K Q else E := by
  have hw : Region.wanted o (yielded ops a.tmps) = true := by simp [Region.wanted, hgd]
  rw [if_pos hw]
  obtain ⟨v', w', hr, h1, h2, h3⟩ := run_appI hown hc hB hlen o.type
  unfold Oper.wp execOp
  simp only [ho, resolve, invoke, builtin, Sem.run_bind, Sem.run_pure, Result.andThen_ok, List.map_toArray, List.map_cons, List.map_nil, hs, hx, hr]
  exact h v' w' h1 h2 h3
theorem seenL_len (b : Bytes) (N : List Nat) (k : Nat) : (seenL b N k).length ≤ N.length := List.length_filter_le _ _

theorem seenL_note {b : Bytes} {N : List Nat} {i : Nat} (h : i + 4 ≤ b.length) (k : Nat) : seenL b (noteL b N i) k = if keyB b i = k then seenL b N k ++ [i] else seenL b N k := by
  unfold noteL seenL
  rw [if_pos h, List.filter_append]
  by_cases hk : keyB b i = k
  · simp [hk]
  · simp [hk]
/-- A row is laid anew. -/
theorem SeenAt.put {B : Nat} {w w1 : World} {M : Nat} {b : Bytes} {N : List Nat} {Bs : Nat → Prop} {i : Nat} {v v' : Value} (h : SeenAt B w M b N Bs) (hi : i + 4 ≤ b.length)
    (hv : (Instr.lookup 139 (.map (some M)) (.int .u32 (keyB b i : Nat)) false).run Try.prog w = .ok v w) (ho1 : Off (fun g => v.ownBlock = some g) w w1) (how : OwI B w1 v' (seenL b N (keyB b i) ++ [i])) (hat : v'.ownBlock = v.ownBlock ∨ ∃ g, v'.ownBlock = some g ∧ w.heap.size ≤ g) :
    ∃ w2 Bs', (Instr.mapUpdate 139 (.map (some M)) (.int .u32 (keyB b i : Nat)) v').run Try.prog w1 = .ok () w2 ∧ SeenAt B w2 M b (noteL b N i) Bs' ∧ Off (fun g => g = M ∨ Bs g) w w2 ∧ (∀ g, Bs' g → Bs g ∨ w.heap.size ≤ g) := by
  obtain ⟨f, c, hm, h1, h2, h3, h4, h5⟩ := h
  have hk := keyB_lt b i
  have hr := hm.look u32Keyed Try.underlying139 (zeroInts w) (u32_key hk) false
  rw [hv] at hr
  simp only [if_neg (show ¬ (false = true) by decide)] at hr
  have hve : v = rowOf f (keyB b i) := by
    have := hr
    injection this with e1 _
  have hvB : ∀ g, v.ownBlock = some g → Bs g := by
    intro g hg
    by_cases hn : seenL b N (keyB b i) = []
    · rw [hve, rowOf, h1 _ hn] at hg; cases hg
    · obtain ⟨v0, hv0, _, hb⟩ := h2 _ hn
      rw [hve, rowOf, hv0] at hg
      exact hb g hg
  have hm1 : MapIs Try.prog 76 w1 M f c := hm.off ho1 (fun e => h4 (hvB M e))
  obtain ⟨w2, hu, hm2, hoff⟩ := hm1.put u32Keyed Try.underlying139 (val := v') (u32_key hk)
  have hM1 := hm.lt
  have hbv : ∀ g, v'.ownBlock = some g → Bs g ∨ w.heap.size ≤ g := by
    intro g hg
    rcases hat with e | ⟨g2, e, hge⟩
    · exact .inl (hvB g (e ▸ hg))
    · rw [e] at hg; cases hg; exact .inr hge
  have hv'M : ¬ v'.ownBlock = some M := by
    intro e
    rcases hbv M e with h | h
    · exact h4 h
    · omega
  refine ⟨w2, fun g => Bs g ∨ v'.ownBlock = some g, hu, ⟨_, _, hm2, fun k hn => ?_, fun k hn => ?_, fun k k' u u' g e1 e2 e3 e4 => ?_, ?_, ?_⟩, ?_, ?_⟩
  · rw [seenL_note hi] at hn
    by_cases he : keyB b i = k
    · rw [if_pos he] at hn; simp at hn
    · rw [if_neg he] at hn
      unfold putK
      rw [if_neg (by intro e; injection e with _ e2; exact he (by omega))]
      exact h1 k hn
  · rw [seenL_note hi] at hn ⊢
    by_cases he : keyB b i = k
    · subst he
      rw [if_pos rfl]
      exact ⟨v', by simp [putK], how.off hoff (fun g hg e => hv'M (e ▸ hg)), fun g hg => .inr hg⟩
    · rw [if_neg he] at hn ⊢
      obtain ⟨u, hu1, hu2, hu3⟩ := h2 k hn
      refine ⟨u, ?_, ?_, fun g hg => .inl (hu3 g hg)⟩
      · unfold putK
        rw [if_neg (by intro e; injection e with _ e2; exact he (by omega))]
        exact hu1
      · refine (hu2.off ho1 (fun g hg e => ?_)).off hoff (fun g hg e => h4 (e ▸ hu3 g hg))
        by_cases hn0 : seenL b N (keyB b i) = []
        · rw [hve, rowOf, h1 _ hn0] at e; cases e
        · obtain ⟨v0, hv0, _, hb⟩ := h2 _ hn0
          rw [hve, rowOf, hv0] at e
          exact he (h3 _ _ _ _ _ hv0 hu1 e hg)
  · have get : ∀ (k : Nat) u, putK f (.int .u32 (keyB b i : Nat)) v' (.int .u32 k) = some u → (k = keyB b i ∧ u = v') ∨ (k ≠ keyB b i ∧ f (.int .u32 k) = some u) := by
      intro k u h
      unfold putK at h
      split at h
      · rename_i e
        injection e with _ e2
        exact .inl ⟨by omega, by cases h; rfl⟩
      · rename_i e
        exact .inr ⟨fun e2 => e (by rw [e2]), h⟩
    have other : ∀ (k : Nat) u, k ≠ keyB b i → f (.int .u32 k) = some u → u.ownBlock = some g → v'.ownBlock = some g → False := by
      intro k u hk2 hu1 hu2 hg
      have hBg : Bs g := by
        by_cases hn : seenL b N k = []
        · rw [h1 k hn] at hu1; cases hu1
        · obtain ⟨u2, hu3, _, hb⟩ := h2 k hn
          rw [hu1] at hu3
          cases hu3
          exact hb g hu2
      rcases hat with e | ⟨g2, e, hge⟩
      · rw [e] at hg
        by_cases hn0 : seenL b N (keyB b i) = []
        · rw [hve, rowOf, h1 _ hn0] at hg; cases hg
        · obtain ⟨v0, hv0, _, hb⟩ := h2 _ hn0
          rw [hve, rowOf, hv0] at hg
          exact hk2 (h3 _ _ _ _ _ hu1 hv0 hu2 hg)
      · rw [e] at hg
        cases hg
        have := (h5 g hBg).2
        omega
    rcases get k u e1 with ⟨r1, rfl⟩ | ⟨r1, r2⟩ <;> rcases get k' u' e2 with ⟨q1, q2⟩ | ⟨q1, q2⟩
    · rw [r1, q1]
    · exact (other k' u' q1 q2 e4 e3).elim
    · subst q2; exact (other k u r1 r2 e3 e4).elim
    · exact h3 _ _ _ _ _ r2 q2 e3 e4
  · rintro (h | h)
    · exact h4 h
    · exact hv'M h
  · have hs := hoff.size
    have hs1 := ho1.size
    rintro g (h | h)
    · have := h5 g h; exact ⟨this.1, by omega⟩
    · have := how.lt g h; exact ⟨this.1, by omega⟩
  · refine (ho1.mono (S' := fun g => g = M ∨ Bs g) fun g hg => .inr (hvB g hg)).trans (hoff.mono fun g hg => .inl hg)
  · rintro g (h | h)
    · exact .inl h
    · exact hbv g h

set_option maxRecDepth 100000 in
set_option maxHeartbeats 2000000 in
theorem note_any {B : Nat} {w : World} {M pb pm : Nat} {b : Bytes} {N : List Nat} {Bs : Nat → Prop} {A : Option Addr} {n c i : Nat} (h : SeenAt B w M b N Bs) (hb : SBy w A n b) (hc : n ≤ c) (hn : n ≤ 2 ^ 20)
    (h1 : w.cell? ⟨pb, 0, none⟩ = some (.slice A n c)) (h2 : w.cell? ⟨pm, 0, none⟩ = some (.map (some M))) (hi : i ≤ 2 ^ 20) (hN : N.length ≤ 1048576) (hB : B ≤ w.heap.size) (hpb : ¬ Bs pb) (hpm : ¬ Bs pm) :
    Calls Try.prog 94 #[.int .i64 i, .pointer (some ⟨pb, 0, none⟩), .pointer (some ⟨pm, 0, none⟩)] w fun e w' => e = .returned (.tuple #[]) ∧ ∃ Bs', SeenAt B w' M b (noteL b N i) Bs' ∧ Off (fun g => g = M ∨ Bs g) w w' ∧ (∀ g, Bs' g → Bs g ∨ w.heap.size ≤ g) := by
  have hl := hb.1
  have hlb := lt_of_cell h1
  have hlm := lt_of_cell h2
  obtain ⟨E, hE⟩ : ∃ E, E = i + 4 := ⟨_, rfl⟩
  have g1 : (i : Int) + 4 = (E : Int) := by omega
  by_cases hin : E ≤ n
  · have hK := Lib.hid (key_any w A n c b i hb hc (by omega) (by omega))
    obtain ⟨v, hv, ho, hvb⟩ := h.row (keyB b i) (keyB_lt b i)
    have hE2 : i + 4 ≤ b.length := by omega
    have k1 : (E : Int) ≤ (n : Int) := by omega
    have hA : Off (fun _ => False) w (w.alloc (.cells #[.int .i64 (i : Nat)] 3)).drew := ((Off.refl _ w).alloc _).drew
    have hvA := hv w.drew ((Off.refl _ w).drew)
    have hvB := hv _ hA
    have hln := seenL_len b N (keyB b i)
    have HO := Lib.hid (ho.off hA (fun _ _ => id))
    have HP : Hid (∀ w3 v', OwI B w3 v' (seenL b N (keyB b i) ++ [i]) → (w.alloc (.cells #[.int .i64 (i : Nat)] 3)).drew.grownBy w3 v.ownBlock → (v'.ownBlock = v.ownBlock ∨ v'.ownBlock = some (w.alloc (.cells #[.int .i64 (i : Nat)] 3)).drew.heap.size) →
        w3.cell? ⟨pm, 0, none⟩ = some (.map (some M)) ∧ ∃ w2 Bs', (Instr.mapUpdate 139 (.map (some M)) (.int .u32 (keyB b i : Nat)) v').run Try.prog w3 = .ok () w2 ∧ SeenAt B w2 M b (noteL b N i) Bs' ∧ Off (fun g => g = M ∨ Bs g) w w2 ∧ (∀ g, Bs' g → Bs g ∨ w.heap.size ≤ g)) := by
      intro w3 v' h3 hg hat
      have hg2 := grown_off hg
      refine ⟨((hg2.cell (p := ⟨pm, 0, none⟩) (Nat.lt_of_lt_of_le hlm hA.size) (fun e => hpm (hvb _ e))).trans (hA.cell (p := ⟨pm, 0, none⟩) hlm id)).trans h2, ?_⟩
      obtain ⟨w2, Bs', q1, q2, q3, q4⟩ := (h.off hA id (fun _ _ => id)).put hE2 hvB hg2 h3 (hat.imp id fun e => ⟨_, e, Nat.le_refl _⟩)
      exact ⟨w2, Bs', q1, q2, (hA.mono (fun _ => False.elim)).trans q3, fun g hg => (q4 g hg).imp id fun h => Nat.le_trans hA.size h⟩
    have hc0 : (w.alloc (.cells #[.int .i64 (i : Nat)] 3)).drew.cell? ⟨w.heap.size, 0, none⟩ = some (iv i) := (alloc_at w (iv i) 3).1
    have HC := Lib.hid hc0
    have hBd : B ≤ (w.alloc (.cells #[.int .i64 (i : Nat)] 3)).drew.heap.size := Nat.le_trans hB hA.size
    have HVA := Lib.hid hvA
    have HVB := Lib.hid hvB
    clear h hE hb hE2 hv ho hA hc0 hvA hvB
    go_enter Try.func94, Try.ntmps94
    go_wp2_with fail
    refine hK.out.mono ?_
    rintro _ w1 ⟨rfl, rfl⟩
    clear hK
    go_upto_region 2 with (fail)
    have hvA := HVA.out
    have hvB := HVB.out
    go_region_law ((refine step_appI (by rfl) _ _ (by rfl) B v (seenL b N (keyB b i)) w1.heap.size i (by rfl) HO.out (by rfl) HC.out hBd (by omega) ?_; intro v' w3 h3 hg3 hat; obtain ⟨q0, w2, Bs', q1, q2, q3, q4⟩ := HP.out w3 v' h3 hg3 hat; have Q2 := Lib.hid q2; have Q3 := Lib.hid q3; have Q4 := Lib.hid q4; clear q2 q3 q4 h3 hg3 hat))
    all_goals
      clear hvA hvB
      go_wp2
      go_end0
      exact ⟨rfl, Bs', Q2.out, Q3.out, Q4.out⟩
  · have HN : Hid (noteL b N i = N) := by unfold noteL; rw [if_neg (by omega)]; exact rfl
    have HS := Lib.hid h
    have k1 : ¬ (E : Int) ≤ (n : Int) := by omega
    clear h hE
    go_enter Try.func94, Try.ntmps94
    go_wp2
    go_end0
    exact ⟨rfl, Bs, by rw [HN.out]; exact HS.out, Off.refl _ _, fun g hg => .inl hg⟩
end Go.Proofs.Ytlmgihnnphmmhaa
namespace Go.Proofs.Ytlmgihnnphmmhaa
open Go.RowKit Go.Shelf
set_option linter.unusedVariables false
set_option linter.unusedSimpArgs false
attribute [local go_sem] Oper.semAt_some

/-- Cells outside the blocks S are as they were. -/
def KeepC (S : Nat → Prop) (A B : World) : Prop := ∀ a v, ¬ S a.block → A.cell? a = some v → B.cell? a = some v
theorem KeepC.refl (S : Nat → Prop) (A : World) : KeepC S A A := fun _ _ _ h => h
theorem KeepC.trans {S : Nat → Prop} {A B C : World} (h : KeepC S A B) (k : KeepC S B C) : KeepC S A C := fun a v hs hc => k a v hs (h a v hs hc)
theorem KeepC.putObj (S : Nat → Prop) (W : World) (l : Nat) (o o' : Obj) (hl : W.heap[l]? = some o) (ho : o.isCells = false) : KeepC S W (W.putObj l o') := by
  intro a v _ hc
  by_cases hal : a.block = l
  · exfalso
    subst hal
    cases o with
    | cells => simp [Obj.isCells] at ho
    | _ => simp [World.cell?, hl] at hc
  · rw [World.cell?_of_block (w := W) (by simp [World.putObj, Ne.symm hal])]
    exact hc
theorem Off.keepC {S : Nat → Prop} {w w' : World} (h : Off S w w') : KeepC S w w' := by
  intro a v hs hc
  have hl : a.block < w.heap.size := by
    rcases Nat.lt_or_ge a.block w.heap.size with h1 | h1
    · exact h1
    · simp [World.cell?, Array.getElem?_eq_none h1] at hc
  rw [h.cell hl hs]
  exact hc

/-- What the loop is handed: an index, a place. -/
abbrev BkX (len top : Nat) := { x : Nat × Nat // x.1 < len ∧ x.2 ≤ top }
def bkEnc {len top : Nat} (x : BkX len top) : Array Value := #[.int .i64 (x.1.1 : Nat), .int .i64 (x.1.2 : Nat)]
def backL (zs : List Nat) (top : Nat) (hz : ∀ i ∈ zs, i ≤ top) : List (BkX zs.length top) :=
  List.ofFn (n := zs.length) fun k => ⟨(zs.length - 1 - k.val, zs[zs.length - 1 - k.val]'(by omega)), by simp only; omega, hz _ (List.getElem_mem _)⟩
theorem backL_length (zs : List Nat) (top : Nat) (hz : ∀ i ∈ zs, i ≤ top) : (backL zs top hz).length = zs.length := by simp [backL]
theorem backL_at (zs : List Nat) (top : Nat) (hz : ∀ i ∈ zs, i ≤ top) (k : Nat) (hk : k < zs.length) : ((backL zs top hz)[k]'(by rw [backL_length]; exact hk)).1 = (zs.length - 1 - k, zs.getD (zs.length - 1 - k) 0) := by
  simp [backL, List.getD_eq_getElem?_getD, show zs.length - 1 - k < zs.length by omega]
theorem backL_rev (zs : List Nat) (top : Nat) (hz : ∀ i ∈ zs, i ≤ top) : (backL zs top hz).map (·.1.2) = zs.reverse := by
  apply List.ext_getElem
  · simp [backL]
  · intro i h1 h2
    simp only [List.length_map, backL_length] at h1
    rw [List.getElem_map, backL_at _ _ _ _ h1, List.getElem_reverse]
    simp [List.getD_eq_getElem?_getD, show zs.length - 1 - i < zs.length by omega]

set_option maxRecDepth 100000 in
set_option maxHeartbeats 2000000 in
theorem back1_in (F : Fence) (n : Nat) (hf : F.fn 108) (hro : F.round = none) (hn : 1 ≤ n) (l Bx cap top : Nat) (A : Option Addr) (zs : List Nat) (hz : ∀ i ∈ zs, i ≤ top) (hlen : zs.length ≤ 1048576) (S : Nat → Prop) (J Jx : List (BkX zs.length top) → World → Prop)
    (hY : ∀ pre x W, J pre W → pre.length < zs.length → YieldAt F (n - 1) Try.prog l (bkEnc x) W fun e W' =>
      (e = .returned (.bool true) ∧ J (pre ++ [x]) W' ∧ KeepC S W W') ∨ (e = .returned (.bool false) ∧ Jx (pre ++ [x]) W'))
    (W : World) (hBx : W.cell? ⟨Bx, 0, none⟩ = some (.slice A zs.length cap)) (hSx : ¬ S Bx) (hc : 0 < zs.length → ∃ g, A = some ⟨g, 0, none⟩ ∧ ¬ S g ∧ ∀ j, j < zs.length → W.cell? ⟨g, 0 + j, none⟩ = some (iv (zs.getD j 0))) (h0 : J [] W) :
    CallsIn F n Try.prog 108 #[.func (.yield l) #[] #[], .pointer (some ⟨Bx, 0, none⟩)] W fun e W' => (∃ v, e = .returned v) ∧
      ((∃ ys, ys = backL zs top hz ∧ J ys W') ∨ (∃ pre, (∃ k, k ≤ zs.length ∧ pre = (backL zs top hz).take k) ∧ Jx pre W')) := by
  have hlen2 := backL_length zs top hz
  obtain ⟨all, hall⟩ : ∃ all, all = backL zs top hz := ⟨_, rfl⟩
  have hat := fun k (hk : k < zs.length) => backL_at zs top hz k hk
  have HY := Lib.hid hY
  have HC := Lib.hid hc
  clear hY hc
  refine callsIn_of_wp Try.func108 rfl hf ?_ hro
  simp only [Try.ntmps108, List.size_toArray, List.length_cons, List.length_nil, Nat.reduceAdd, Nat.reduceSub, Array.replicate_succ, Array.replicate_zero, List.push_toArray, List.append_toArray, List.nil_append, List.cons_append]
  gi_wp2
  gi_loopw [3] (fun i wr => ∃ k : Nat, k ≤ zs.length ∧ i = .int .i64 ((zs.length : Int) - 1 - k) ∧ J ((backL zs top hz).take k) wr ∧ KeepC S W wr)
    (fun i _ => (intOf i + 1).toNat)
  case atStart => exact ⟨0, Nat.zero_le _, by simp, by simpa using h0, KeepC.refl _ _⟩
  case round =>
    obtain ⟨k, hk, rfl, hJs, hnx⟩ := hrel
    by_cases hlt : k < zs.length
    · obtain ⟨g, rfl, hSg, hcs⟩ := HC.out (by omega)
      obtain ⟨j, hj⟩ : ∃ j, j = zs.length - 1 - k := ⟨_, rfl⟩
      have hcx : wr.cell? ⟨g, 0 + j, none⟩ = _ := hnx ⟨g, 0 + j, none⟩ _ hSg (hcs j (by omega))
      have hBr : wr.cell? ⟨Bx, 0, none⟩ = _ := hnx ⟨Bx, 0, none⟩ _ hSx hBx
      have hY2 := HY.out ((backL zs top hz).take k) ((backL zs top hz)[k]'(by omega)) wr hJs (by rw [List.length_take]; omega)
      have hat2 := hat k hlt
      rw [← List.take_succ_eq_append_getElem (by omega : k < (backL zs top hz).length)] at hY2
      unfold bkEnc at hY2
      rw [hat2, ← hj] at hY2
      obtain ⟨fn, tmps, assign, body, hy, hR⟩ := hY2
      dsimp only at hy
      have e1 : ((zs.length : Int) - 1 - (k : Int)) = (j : Int) := by omega
      have e2 : (0 : Int) ≤ (j : Int) := by omega
      have e3 : (j : Int) < (zs.length : Int) := by omega
      unfold iv at hcx
      rw [Nat.zero_add] at hcx
      simp only [List.getD_eq_getElem?_getD] at hcx hy
      rw [e1]
      clear hall hat hj hat2
      gi_wp2
      refine hR.mono ?_
      rintro e W3 (⟨rfl, hJ3, hk3⟩ | ⟨rfl, hJx3⟩)
      · gi_wp2
        go_roundw
        case rel => exact ⟨k + 1, by omega, by congr 1; omega, hJ3, hnx.trans hk3⟩
        case measure => simp [intOf]
      · gi_wp2
        refine bodyPost_ret (results_none rfl _ _ _) rfl ?_
        exact ⟨⟨_, rfl⟩, .inr ⟨_, ⟨k + 1, by omega, rfl⟩, hJx3⟩⟩
    · obtain rfl : k = zs.length := by omega
      have e1 : ((zs.length : Int) - 1 - (zs.length : Int)) = -1 := by omega
      rw [e1]
      clear hall hat
      gi_wp2
      go_end0
      exact ⟨⟨_, rfl⟩, .inl ⟨_, rfl, by rw [List.take_of_length_le (by omega)] at hJs; exact hJs⟩⟩

theorem back_stops (F : Fence) (n : Nat) (hf : F.fn 108) (hro : F.round = none) (hn : 1 ≤ n) (Bx cap top : Nat) (A : Option Addr) (zs : List Nat) (hz : ∀ i ∈ zs, i ≤ top) (hlen : zs.length ≤ 1048576) (S : Nat → Prop) (w : World)
    (hBx : w.cell? ⟨Bx, 0, none⟩ = some (.slice A zs.length cap)) (hSx : ¬ S Bx) (hc : 0 < zs.length → ∃ g, A = some ⟨g, 0, none⟩ ∧ ¬ S g ∧ ∀ j, j < zs.length → w.cell? ⟨g, 0 + j, none⟩ = some (iv (zs.getD j 0))) :
    SeqStopsK F n Try.prog 108 #[.pointer (some ⟨Bx, 0, none⟩)] (bkEnc (len := zs.length) (top := top)) (KeepC S) (fun ys => ys = backL zs top hz) (fun pre => ∃ k, k ≤ zs.length ∧ pre = (backL zs top hz).take k) zs.length w := fun l J Jx W hW _ _ hY h0 => by
  refine back1_in F n hf hro hn l Bx cap top A zs hz hlen S J Jx hY W ((hW.cell (lt_of_cell hBx)).trans hBx) hSx (fun hp => ?_) h0
  obtain ⟨g, hA, hg, hcs⟩ := hc hp
  exact ⟨g, hA, hg, fun j hj => (hW.cell (lt_of_cell (hcs j hj))).trans (hcs j hj)⟩
set_option maxHeartbeats 1000000 in
theorem backward_any (w : World) (A : Option Addr) (len cap : Nat) :
    Calls Try.prog 96 #[.slice A len cap] w fun e w' => e = .returned (.func (.func 108) #[] #[.pointer (some ⟨w.heap.size, 0, none⟩)]) ∧ w' = w.alloc (.cells #[.slice A len cap] 141) := by
  go_enter Try.func96, Try.ntmps96
  go_wp2
  go_ret
  exact ⟨rfl, rfl⟩
end Go.Proofs.Ytlmgihnnphmmhaa
namespace Go.Proofs.Ytlmgihnnphmmhaa
open Go.RowKit Go.Shelf
set_option linter.unusedVariables false
set_option linter.unusedSimpArgs false

/-- The blocks of the deferred calls that the loops over functions have left. -/
def dfs (Ds : List Nat) : List Deferred := Ds.map fun D => { target := .collected D, args := #[] }
def ownOf (A : Option Addr) (n c : Nat) (g : Nat) : Prop := Value.ownBlock (.slice A n c) = some g

structure GInv (w0 wr : World) (pb pm pa M : Nat) (A : Option Addr) (n c : Nat) (b : Bytes) (at_ : Nat) (N : List Nat) (Ao : Option Addr) (no co : Nat) (out : Bytes) (Bs : Nat → Prop) (Ds : List Nat) : Prop where
  cb : wr.cell? ⟨pb, 0, none⟩ = some (.slice A n c)
  cm : wr.cell? ⟨pm, 0, none⟩ = some (.map (some M))
  ca : wr.cell? ⟨pa, 0, none⟩ = some (.int .i64 (at_ : Nat))
  za : wr.frozen? ⟨pa, 0, none⟩ = false
  seen : SeenAt w0.heap.size wr M b N Bs
  fr : FrB w0 wr (.slice Ao no co) out
  dis : ∀ g, Bs g → g ≠ pb ∧ g ≠ pm ∧ g ≠ pa ∧ g ≠ M ∧ ¬ ownOf Ao no co g
  dout : ∀ g, ownOf Ao no co g → g ≠ pb ∧ g ≠ pm ∧ g ≠ pa ∧ g ≠ M
  far : w0.heap.size ≤ pa ∧ w0.heap.size ≤ M ∧ pa ≠ pb ∧ pa ≠ pm
  defs : ∀ D ∈ Ds, w0.heap.size ≤ D ∧ wr.heap[D]? = some (.deferred (some [])) ∧ ¬ Bs D ∧ ¬ ownOf Ao no co D
  nd : Ds.Nodup
  sb : SBy w0 A n b

theorem cell_ne_of {w : World} {g D : Nat} {v : Value} {o : Obj} (h : w.cell? ⟨g, 0, none⟩ = some v) (hD : w.heap[D]? = some o) (ho : o.isCells = false) : g ≠ D := by
  intro e
  subst e
  cases o with
  | cells => simp [Obj.isCells] at ho
  | _ => simp [World.cell?, hD] at h
section
variable {w0 wr : World} {pb pm pa M : Nat} {A : Option Addr} {n c : Nat} {b : Bytes} {at_ : Nat} {N : List Nat} {Ao : Option Addr} {no co : Nat} {out : Bytes} {Bs : Nat → Prop} {Ds : List Nat}
theorem GInv.lts (h : GInv w0 wr pb pm pa M A n c b at_ N Ao no co out Bs Ds) : pb < wr.heap.size ∧ pm < wr.heap.size ∧ pa < wr.heap.size ∧ M < wr.heap.size ∧ (∀ g, Bs g → g < wr.heap.size) ∧ (∀ g, ownOf Ao no co g → g < wr.heap.size ∧ w0.heap.size ≤ g) := by
  refine ⟨lt_of_cell h.cb, lt_of_cell h.cm, lt_of_cell h.ca, h.seen.lt, fun g hg => ?_, fun g hg => ?_⟩
  · obtain ⟨_, _, _, _, _, _, _, h5⟩ := h.seen
    exact (h5 g hg).2
  · have := h.fr.own.lt g hg
    exact ⟨this.2, this.1⟩
theorem GInv.up (h : GInv w0 wr pb pm pa M A n c b at_ N Ao no co out Bs Ds) {w' : World} (hb : Below wr.heap.size wr w') : GInv w0 w' pb pm pa M A n c b at_ N Ao no co out Bs Ds := by
  obtain ⟨l1, l2, l3, l4, _⟩ := h.lts
  refine ⟨(hb.cell (p := ⟨pb, 0, none⟩) l1).trans h.cb, (hb.cell (p := ⟨pm, 0, none⟩) l2).trans h.cm, (hb.cell (p := ⟨pa, 0, none⟩) l3).trans h.ca, (hb.frozen (p := ⟨pa, 0, none⟩) l3).trans h.za, h.seen.off (S := fun _ => False) (Off.of_below hb) id (fun _ _ => id), h.fr.up hb, h.dis, h.dout, h.far, fun D hD => ?_, h.nd, h.sb⟩
  obtain ⟨d1, d2, d3, d4⟩ := h.defs D hD
  exact ⟨d1, (hb.block D (Array.getElem?_eq_some_iff.1 d2).1).trans d2, d3, d4⟩
theorem GInv.sby (h : GInv w0 wr pb pm pa M A n c b at_ N Ao no co out Bs Ds) : SBy wr A n b := h.sb.up h.fr.bel
theorem GInv.M_ne (h : GInv w0 wr pb pm pa M A n c b at_ N Ao no co out Bs Ds) : pb ≠ M ∧ pm ≠ M ∧ pa ≠ M ∧ ∀ D ∈ Ds, D ≠ M ∧ pb ≠ D ∧ pm ≠ D ∧ pa ≠ D := by
  obtain ⟨f, k, hm, _⟩ := h.seen
  obtain ⟨es, clock, hM, _⟩ := hm
  refine ⟨cell_ne_of h.cb hM rfl, cell_ne_of h.cm hM rfl, cell_ne_of h.ca hM rfl, fun D hD => ?_⟩
  obtain ⟨_, d2, _⟩ := h.defs D hD
  refine ⟨?_, cell_ne_of h.cb d2 rfl, cell_ne_of h.cm d2 rfl, cell_ne_of h.ca d2 rfl⟩
  intro e
  subst e
  rw [d2] at hM
  cases hM
/-- A place is noted. -/
theorem GInv.note (h : GInv w0 wr pb pm pa M A n c b at_ N Ao no co out Bs Ds) {w' : World} {N' : List Nat} {Bs' : Nat → Prop} (hs : SeenAt w0.heap.size w' M b N' Bs') (ho : Off (fun g => g = M ∨ Bs g) wr w') (hB : ∀ g, Bs' g → Bs g ∨ wr.heap.size ≤ g) :
    GInv w0 w' pb pm pa M A n c b at_ N' Ao no co out Bs' Ds := by
  obtain ⟨l1, l2, l3, l4, l5, l6⟩ := h.lts
  obtain ⟨m1, m2, m3, m4⟩ := h.M_ne
  have nb : ∀ g, (g = M ∨ Bs g) → g ≠ pb ∧ g ≠ pm ∧ g ≠ pa ∧ ¬ ownOf Ao no co g := by
    rintro g (rfl | hg)
    · exact ⟨Ne.symm m1, Ne.symm m2, Ne.symm m3, fun e => (h.dout _ e).2.2.2 rfl⟩
    · have := h.dis g hg; exact ⟨this.1, this.2.1, this.2.2.1, this.2.2.2.2⟩
  refine ⟨(ho.cell (p := ⟨pb, 0, none⟩) l1 (fun e => (nb _ e).1 rfl)).trans h.cb, (ho.cell (p := ⟨pm, 0, none⟩) l2 (fun e => (nb _ e).2.1 rfl)).trans h.cm, (ho.cell (p := ⟨pa, 0, none⟩) l3 (fun e => (nb _ e).2.2.1 rfl)).trans h.ca, (ho.frozen (p := ⟨pa, 0, none⟩) l3 (fun e => (nb _ e).2.2.1 rfl)).trans h.za, hs,
    ⟨h.fr.own.off ho (fun g hg e => (nb g e).2.2.2 hg), h.fr.bel.trans (ho.below (fun g hg => ?_) h.fr.bel.size)⟩, fun g hg => ?_, h.dout, h.far, fun D hD => ?_, h.nd, h.sb⟩
  · rcases hg with rfl | hg
    · exact h.far.2.1
    · obtain ⟨_, _, _, _, _, _, _, h5⟩ := h.seen
      exact (h5 g hg).1
  · rcases hB g hg with h1 | h1
    · exact h.dis g h1
    · refine ⟨by omega, by omega, by omega, by omega, fun e => ?_⟩
      have := (l6 g e).1
      omega
  · obtain ⟨d1, d2, d3, d4⟩ := h.defs D hD
    have hlD := (Array.getElem?_eq_some_iff.1 d2).1
    refine ⟨d1, (ho.block D hlD (fun e => ?_)).trans d2, fun e => ?_, d4⟩
    · rcases e with e | e
      · exact (m4 D hD).1 e
      · exact d3 e
    · rcases hB D e with h1 | h1
      · exact d3 h1
      · omega
/-- The place goes on. -/
theorem GInv.setAt (h : GInv w0 wr pb pm pa M A n c b at_ N Ao no co out Bs Ds) (x : Nat) : GInv w0 (wr.setCell ⟨pa, 0, none⟩ (.int .i64 (x : Nat))) pb pm pa M A n c b x N Ao no co out Bs Ds := by
  have ho : Off (· = pa) wr (wr.setCell ⟨pa, 0, none⟩ (.int .i64 (x : Nat))) := (Off.refl (· = pa) wr).setCell (p := ⟨pa, 0, none⟩) rfl _
  obtain ⟨l1, l2, l3, l4, l5, l6⟩ := h.lts
  obtain ⟨m1, m2, m3, m4⟩ := h.M_ne
  refine ⟨(ho.cell (p := ⟨pb, 0, none⟩) l1 (fun e => h.far.2.2.1 e.symm)).trans h.cb, (ho.cell (p := ⟨pm, 0, none⟩) l2 (fun e => h.far.2.2.2 e.symm)).trans h.cm, World.cell?_setCell_same _ _ _ h.ca, by rw [World.frozen?_setCell]; exact h.za,
    h.seen.off ho (fun e => m3 e.symm) (fun g hg e => (h.dis g hg).2.2.1 e), ⟨h.fr.own.off ho (fun g hg e => (h.dout g hg).2.2.1 e), h.fr.bel.setCell h.far.1 _⟩, h.dis, h.dout, h.far, fun D hD => ?_, h.nd, h.sb⟩
  obtain ⟨d1, d2, d3, d4⟩ := h.defs D hD
  exact ⟨d1, (ho.block D (Array.getElem?_eq_some_iff.1 d2).1 (fun e => (m4 D hD).2.2.2 e.symm)).trans d2, d3, d4⟩
/-- What is told has grown: a new row. -/
theorem GInv.setOut (h : GInv w0 wr pb pm pa M A n c b at_ N Ao no co out Bs Ds) {w1 w2 : World} {A' : Option Addr} {n' c' : Nat} {out' : Bytes} (hb : Below wr.heap.size wr w1) (hf : FrB w1 w2 (.slice A' n' c') out') : GInv w0 w2 pb pm pa M A n c b at_ N A' n' c' out' Bs Ds := by
  have hb2 : Below wr.heap.size wr w2 := hb.trans (hf.bel.mono hb.size)
  have h2 := h.up hb2
  obtain ⟨l1, l2, l3, l4, l5, l6⟩ := h.lts
  have new : ∀ g, ownOf A' n' c' g → wr.heap.size ≤ g := fun g hg => Nat.le_trans hb.size (hf.own.lt g hg).1
  have hs0 : w0.heap.size ≤ wr.heap.size := h.fr.bel.size
  refine ⟨h2.cb, h2.cm, h2.ca, h2.za, h2.seen, ⟨hf.own.mono (Nat.le_trans hs0 hb.size), h2.fr.bel⟩, fun g hg => ⟨(h2.dis g hg).1, (h2.dis g hg).2.1, (h2.dis g hg).2.2.1, (h2.dis g hg).2.2.2.1, fun e => ?_⟩, fun g hg => ?_, h2.far, fun D hD => ?_, h2.nd, h2.sb⟩
  · have := new g e; have := l5 g hg; omega
  · have := new g hg; exact ⟨by omega, by omega, by omega, by omega⟩
  · obtain ⟨d1, d2, d3, d4⟩ := h.defs D hD
    obtain ⟨e1, e2, e3, e4⟩ := h2.defs D hD
    refine ⟨d1, e2, d3, fun e => ?_⟩
    have := new D e
    have := (Array.getElem?_eq_some_iff.1 d2).1
    omega
/-- A loop over a function leaves its block. -/
theorem GInv.addD (h : GInv w0 wr pb pm pa M A n c b at_ N Ao no co out Bs Ds) {w' : World} {D : Nat} (hb : Below wr.heap.size wr w') (hD : wr.heap.size ≤ D) (hd : w'.heap[D]? = some (.deferred (some []))) : GInv w0 w' pb pm pa M A n c b at_ N Ao no co out Bs (D :: Ds) := by
  have h2 := h.up hb
  obtain ⟨l1, l2, l3, l4, l5, l6⟩ := h.lts
  have hs0 : w0.heap.size ≤ wr.heap.size := h.fr.bel.size
  refine ⟨h2.cb, h2.cm, h2.ca, h2.za, h2.seen, h2.fr, h2.dis, h2.dout, h2.far, fun E hE => ?_, ?_, h2.sb⟩
  · rcases List.mem_cons.1 hE with rfl | hE
    · exact ⟨by omega, hd, fun e => by have := l5 _ e; omega, fun e => by have := (l6 _ e).1; omega⟩
    · exact h2.defs E hE
  · refine List.nodup_cons.2 ⟨fun hm => ?_, h.nd⟩
    have := (Array.getElem?_eq_some_iff.1 (h.defs D hm).2.1).1
    omega
theorem GInv.start {w : World} {pb pm pa M : Nat} (hsb : SBy w A n b) (cb : wr.cell? ⟨pb, 0, none⟩ = some (.slice A n c)) (cm : wr.cell? ⟨pm, 0, none⟩ = some (.map (some M))) (ca : wr.cell? ⟨pa, 0, none⟩ = some (.int .i64 (0 : Nat))) (za : wr.frozen? ⟨pa, 0, none⟩ = false)
    (hs : SeenAt w.heap.size wr M b [] (fun _ => False)) (hf : FrB w wr (.slice Ao no co) out) (hdo : ∀ g, ownOf Ao no co g → g ≠ pb ∧ g ≠ pm ∧ g ≠ pa ∧ g ≠ M) (far : w.heap.size ≤ pa ∧ w.heap.size ≤ M ∧ pa ≠ pb ∧ pa ≠ pm) :
    GInv w wr pb pm pa M A n c b 0 [] Ao no co out (fun _ => False) [] :=
  ⟨cb, cm, ca, za, hs, hf, fun g h => h.elim, hdo, far, fun D h => by simp at h, List.nodup_nil, hsb⟩
end

/-- The deferred blocks are taken, one by one. -/
theorem leaves_dfs {P : Program} {fn : Func} {tmps : Array Value} {R : Ending → World → Prop} {F : Fence} {m : Nat} (v : Value) : ∀ (Ds : List Nat) (w : World), (∀ D ∈ Ds, w.heap[D]? = some (.deferred (some []))) → Ds.Nodup →
    (∀ w', (results fn tmps).run P w' = .ok v w') → (∀ w', Off (fun g => g ∈ Ds) w w' → R (.returned v) w') → LeavesInM F m P fn tmps R (dfs Ds) .returning w := by
  intro Ds
  induction Ds with
  | nil =>
    intro w hD hn hr hR
    exact ⟨v, hr w, hR w (Off.refl _ _)⟩
  | cons D Ds ih =>
    intro w hD hn hr hR
    have hK := hD D (by simp)
    refine ⟨by simp, .inl ⟨D, _, rfl, run_takeDeferred hK, ?_⟩⟩
    have hn2 := List.nodup_cons.1 hn
    have hoff : Off (· = D) w (w.putObj D (.deferred none)) := ⟨rfl, rfl, rfl, by simp [World.putObj], fun k hk hne => by simp [World.putObj, Ne.symm hne]⟩
    refine ih _ (fun E hE => ?_) hn2.2 hr (fun w' ho => hR w' ?_)
    · rw [hoff.block E (Array.getElem?_eq_some_iff.1 (hD E (by simp [hE]))).1 (fun e => hn2.1 (e ▸ hE))]
      exact hD E (by simp [hE])
    · exact (hoff.mono (fun k e => by rw [e]; simp)).trans (ho.mono (fun k e => by simp [e]))
theorem Off.frB {S : Nat → Prop} {w0 w w' : World} {v : Value} {L : Bytes} (h : FrB w0 w v L) (ho : Off S w w') (h1 : ∀ g, v.ownBlock = some g → ¬ S g) (h2 : ∀ g, S g → w0.heap.size ≤ g) : FrB w0 w' v L :=
  ⟨h.own.off ho h1, h.bel.trans (ho.below h2 h.bel.size)⟩
end Go.Proofs.Ytlmgihnnphmmhaa
