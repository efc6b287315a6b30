/- The plain law of FramesKeys. -/
import Derived.Test.YtmipngefpedfpaaFH
import Derived.Test.YtmipngefpedfpaaPP
namespace Go.Proofs.Ytmipngefpedfpaa
open Go.RowKit Go.Maps
set_option linter.unusedVariables false
set_option linter.unusedSimpArgs false

structure KInv (n : Nat) (F : Nat → Fr) (g : Int → Option Nat) : Prop where
  good : Good n F g
  pins : ∀ j, j < n → 0 ≤ (F j).pins ∧ (F j).pins ≤ 1048576

theorem cntF_congr {q : Fr → Bool} {F F' : Nat → Fr} : ∀ {k : Nat}, (∀ j, j < k → q (F j) = q (F' j)) → cntF q F k = cntF q F' k
  | 0, _ => rfl
  | k + 1, h => by
    unfold cntF
    rw [cntF_congr (fun j hj => h j (by omega)), h k (by omega)]
theorem cntF_out {q : Fr → Bool} {F : Nat → Fr} {f : Fr} {k j : Nat} (hj : k ≤ j) : cntF q (putF F j f) k = cntF q F k :=
  cntF_congr fun i hi => by unfold putF; rw [if_neg (by omega)]
theorem cntF_put {q : Fr → Bool} {F : Nat → Fr} {f : Fr} {j : Nat} : ∀ {k : Nat}, j < k → cntF q (putF F j f) k + (q (F j)).toNat = cntF q F k + (q f).toNat
  | 0, h => by omega
  | k + 1, h => by
    unfold cntF
    rcases Nat.lt_or_ge j k with h1 | h1
    · have := cntF_put (q := q) (F := F) (f := f) h1
      have e : putF F j f k = F k := by unfold putF; rw [if_neg (by omega)]
      rw [e]
      omega
    · have : j = k := by omega
      subst this
      rw [cntF_out (Nat.le_refl _)]
      have e : putF F j f j = f := by unfold putF; rw [if_pos rfl]
      rw [e]
      cases q f <;> cases q (F j) <;> simp

theorem Good.same {n : Nat} {F F' : Nat → Fr} {g : Int → Option Nat} (G : Good n F g) (h : ∀ j, j < n → (F' j).key = (F j).key ∧ (F' j).used = (F j).used) : Good n F' g :=
  ⟨fun j hj hu => by rw [(h j hj).1]; exact G.a j hj (by rw [← (h j hj).2]; exact hu), fun k j hg => by
    obtain ⟨h1, h2, h3⟩ := G.b k j hg
    exact ⟨h1, by rw [(h j h1).2]; exact h2, by rw [(h j h1).1]; exact h3⟩⟩
theorem Good.drop {n f : Nat} {F : Nat → Fr} {g : Int → Option Nat} (G : Good n F g) (hf : f < n) (hu : (F f).used = true) : Good n (putF F f Fr.zero) (upd g (F f).key none) := by
  refine ⟨fun j hj h => ?_, fun k j h => ?_⟩
  · unfold putF at h ⊢
    by_cases h1 : j = f
    · rw [if_pos h1] at h; cases h
    · rw [if_neg h1] at h ⊢
      unfold upd
      rw [if_neg, G.a j hj h]
      intro e
      have h2 := G.a j hj h
      rw [e, G.a f hf hu] at h2
      exact h1 (Option.some.inj h2).symm
  · unfold upd at h
    split at h
    · cases h
    · rename_i hne
      obtain ⟨h1, h2, h3⟩ := G.b k j h
      have hjf : j ≠ f := fun e => hne (by rw [← h3, e])
      unfold putF
      rw [if_neg hjf]
      exact ⟨h1, h2, h3⟩

/-- What Take does. -/
inductive KT (n : Nat) (F : Nat → Fr) (h : Nat) (g : Int → Option Nat) (key : Int) : Prop
  | used (hg : (g key).isSome = true) (ht : TakeIs n (takeR n F h g key) 0 Fr.zero false 3 F h g)
  | free (j : Nat) (hg : g key = none) (hj : j < n) (hno : ∀ k, g k ≠ some j) (ht : TakeIs n (takeR n F h g key) j Fr.zero false 0 (putF F j (Fr.new key)) h (upd g key (some j)))
      (hi : KInv n (putF F j (Fr.new key)) (upd g key (some j))) (hc : cntF qUsed (putF F j (Fr.new key)) n = cntF qUsed F n + 1)
  | full (hg : g key = none) (ht : TakeIs n (takeR n F h g key) 0 Fr.zero false 10 F h g)
  | give (r : Nat) (out : Fr) (F' : Nat → Fr) (h' : Nat) (hg : g key = none) (hr : r < n) (ho : g out.key = some r) (hp : out.pins = 0) (hu : out.used = true) (hf : out.ref = false)
      (hkey : ∃ j, j < n ∧ out.key = (F j).key) (hno : ∀ k, upd g out.key none k ≠ some r) (ht : TakeIs n (takeR n F h g key) r out true 0 F' h' (upd (upd g out.key none) key (some r)))
      (hi : KInv n F' (upd (upd g out.key none) key (some r))) (hc : cntF qUsed F' n = cntF qUsed F n)

theorem kt {n h : Nat} {F : Nat → Fr} {g : Int → Option Nat} {key : Int} (I : KInv n F g) (hh : h < n) : KT n F h g key := by
  cases hg0 : g key with
  | some x =>
    refine KT.used (by rw [hg0]; rfl) ?_
    have e : takeR n F h g key = ⟨0, Fr.zero, false, 3, F, h, g⟩ := by unfold takeR; rw [hg0]; rfl
    rw [e]
    exact ⟨rfl, rfl, rfl, rfl, fun _ _ => rfl, rfl, fun _ => rfl⟩
  | none =>
    rcases first_spec (fun i => !(F i).used) n with ⟨h1, h2⟩ | ⟨j, h1, h2, h3, h4⟩
    · have hu : ∀ i, i < n → (F i).used = true := fun i hi => by simpa using h2 i hi
      cases hl : loose F n
      · refine KT.full hg0 ?_
        have e : takeR n F h g key = ⟨0, Fr.zero, false, 10, F, h, g⟩ := by
          unfold takeR
          rw [hg0, show freeAt F n = -1 from h1, hl]; simp
        rw [e]
        exact ⟨rfl, rfl, rfl, rfl, fun _ _ => rfl, rfl, fun _ => rfl⟩
      · have hc : ∃ i, i < n ∧ (F i).pins = 0 := by
          unfold loose at hl
          rcases first_spec (fun i => (F i).pins == 0) n with ⟨k1, k2⟩ | ⟨j, k1, k2, k3, k4⟩
          · rw [k1] at hl; cases hl
          · exact ⟨j, k2, by simpa using k3⟩
        obtain ⟨i, hi, hpi⟩ := hc
        obtain ⟨r, s1, s2, s3, s4⟩ := sw_some hh hi (show (F i).cand = true by simp [Fr.cand, hu i hi, hpi])
        have hcl := (sw_form n (by omega) (2 * n + 1) h F hh).1
        obtain ⟨F1, hF1⟩ : ∃ F1, F1 = (sw n (2 * n + 1) h F).2 := ⟨_, rfl⟩
        rw [← hF1] at s3 s4 hcl
        have hs : sw n (2 * n + 1) h F = ((r : Int), F1) := by rw [hF1, ← s1]
        have hu1 : (F1 r).used = true := by rw [(hcl r).2.1]; exact hu r s2
        have G := Good.put I.good hcl s2 hg0
        rw [hu1] at G
        simp only [if_true] at G
        have hor : g (F1 r).key = some r := by rw [(hcl r).1]; exact I.good.a r s2 (hu r s2)
        have hpin := I.pins r s2
        rw [← (hcl r).2.2.2.1] at hpin
        have hp0 : (F1 r).pins = 0 := by
          simp [Fr.cand, hu1] at s3
          omega
        refine KT.give r (F1 r) (putF F1 r (Fr.new key)) _ hg0 s2 hor hp0 hu1 s4 ⟨r, s2, (hcl r).1⟩ (fun k he => ?_) (take_give hg0 hu ⟨i, hi, hpi⟩ hs rfl (fun j hj => rfl) (fun x => rfl)) ⟨G, fun j hj => ?_⟩ ?_
        · unfold upd at he
          split at he
          · cases he
          · rename_i hne
            exact hne (by rw [(hcl r).1, ← (I.good.b k r he).2.2])
        · unfold putF
          split
          · simp [Fr.new]
          · rw [(hcl j).2.2.2.1]; exact I.pins j hj
        · have e1 := cntF_put (q := qUsed) (F := F1) (f := Fr.new key) s2
          have e2 : cntF qUsed F1 n = cntF qUsed F n := cntF_congr fun j _ => (hcl j).2.1
          have e3 : qUsed (F1 r) = true := hu1
          have e4 : qUsed (Fr.new key) = true := rfl
          rw [e3, e4] at e1
          omega
    · have hju : (F j).used = false := by simpa using h3
      have hno : ∀ k, g k ≠ some j := fun k he => by have := (I.good.b k j he).2.1; rw [hju] at this; cases this
      have G := Good.put I.good (Cleared.refl F) h2 hg0
      rw [hju] at G
      simp only [Bool.false_eq_true, if_false] at G
      refine KT.free j hg0 h2 hno (take_free hg0 h2 hju (fun i hi => by simpa using h4 i hi) (fun _ _ => rfl) (fun _ => rfl)) ⟨G, fun i hi => ?_⟩ ?_
      · unfold putF
        split
        · simp [Fr.new]
        · exact I.pins i hi
      · have e1 := cntF_put (q := qUsed) (F := F) (f := Fr.new key) h2
        have e3 : qUsed (F j) = false := hju
        have e4 : qUsed (Fr.new key) = true := rfl
        rw [e3, e4] at e1
        simpa using e1
end Go.Proofs.Ytmipngefpedfpaa
