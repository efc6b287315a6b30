/- Take for every pool; New, used, Touch, Pin, Hand. -/
import Derived.Test.YtmipngefpedfpaaFE
namespace Go.Proofs.Ytmipngefpedfpaa
open Go.RowKit Go.Maps
set_option linter.unusedVariables false
set_option linter.unusedSimpArgs false

section
variable {w : World} {P B M n : Nat} {F : Nat → Fr} {h : Nat} {g : Int → Option Nat} {c : Nat} {key : Int}

theorem Take_any (p : PoolAt w P B M n F h g c) (hk : (Lit.int .i64 key).wf = true) :
    Calls Try.prog 45 #[.pointer (some ⟨P, 0, none⟩), .int .i64 key] w (TakePost P B M n (takeR n F h g key) w) := by
  cases hg : (g key).isSome
  · rcases first_spec (fun i => !(F i).used) n with ⟨h1, h2⟩ | ⟨j, h1, h2, h3, h4⟩
    · cases hl : loose F n
      · exact Take_full p hk hg h1 hl
      · have hc : ∃ i, i < n ∧ (F i).cand = true := by
          unfold loose at hl
          rcases first_spec (fun i => (F i).pins == 0) n with ⟨k1, k2⟩ | ⟨j, k1, k2, k3, k4⟩
          · rw [k1] at hl; cases hl
          · refine ⟨j, k2, ?_⟩
            have hu := h2 j k2
            simp at hu k3
            simp [Fr.cand, hu, k3]
        obtain ⟨i, hi, hci⟩ := hc
        obtain ⟨r, k1, k2, k3, k4⟩ := sw_some p.hand hi hci
        exact Take_give p hk hg h1 hl (r := r) (F' := (sw n (2 * n + 1) h F).2) (by rw [← k1]) k2 (sw_form n p.pos (2 * n + 1) h F p.hand).1
    · exact Take_free p hk hg h1 h2
  · exact Take_used p hk hg


set_option maxHeartbeats 400000 in
theorem used_yes (p : PoolAt w P B M n F h g c) (f : Nat) (hf : f < n) (hu : (F f).used = true) :
    Calls Try.prog 46 #[.pointer (some ⟨P, 0, none⟩), .int .i64 f] w fun e w' => e = .returned (.pointer (some ⟨B, f * 5, none⟩)) ∧ w = w' := by
  have l0 := p.l0
  have c1 := (p.fr f hf).c1
  rw [hu] at c1
  have hn := p.most
  clear hu
  go_enter Try.func46, Try.ntmps46
  go_wp2
  go_ret
  exact ⟨rfl, rfl⟩

set_option maxHeartbeats 400000 in
theorem used_no (p : PoolAt w P B M n F h g c) (f : Int) (hf : f < 0 ∨ (n : Int) ≤ f ∨ (F f.toNat).used = false) :
    Calls Try.prog 46 #[.pointer (some ⟨P, 0, none⟩), .int .i64 f] w fun e w' => e = .returned (.pointer none) ∧ w = w' := by
  have l0 := p.l0
  have hn := p.most
  by_cases h1 : f < 0
  · clear hf
    go_enter Try.func46, Try.ntmps46
    go_wp2
    go_ret
    exact ⟨rfl, rfl⟩
  · obtain ⟨k, rfl⟩ := Int.eq_ofNat_of_zero_le (Int.not_lt.1 h1)
    by_cases h2 : n ≤ k
    · clear hf
      go_enter Try.func46, Try.ntmps46
      go_wp2
      go_ret
      exact ⟨rfl, rfl⟩
    · have hu : (F k).used = false := by
        rcases hf with h | h | h
        · omega
        · omega
        · simpa using h
      have c1 := (p.fr k (by omega)).c1
      rw [hu] at c1
      clear hf hu
      go_enter Try.func46, Try.ntmps46
      go_wp2
      go_ret
      exact ⟨rfl, rfl⟩
end

/-- One cell of a frame is written. -/
theorem FrS.set {w : World} {B n k s : Nat} {F : Nat → Fr} {v : Value} {f : Fr} (h : FrS w B n F) (hk : k < n) (hs : s < 5)
    (h0 : s ≠ 0 → f.key = (F k).key) (h1 : s ≠ 1 → f.used = (F k).used) (h2 : s ≠ 2 → f.ref = (F k).ref) (h3 : s ≠ 3 → f.dirty = (F k).dirty) (h4 : s ≠ 4 → f.pins = (F k).pins)
    (e0 : s = 0 → v = .int .i64 f.key) (e1 : s = 1 → v = .bool f.used) (e2 : s = 2 → v = .bool f.ref) (e3 : s = 3 → v = .bool f.dirty) (e4 : s = 4 → v = .int .i64 f.pins) :
    FrS (w.setCell ⟨B, k * 5 + s, none⟩ v) B n (putF F k f) := by
  intro i hi
  have hi5 := h i hi
  have o : ∀ r, k * 5 + s ≠ r → (w.setCell ⟨B, k * 5 + s, none⟩ v).cell? ⟨B, r, none⟩ = w.cell? ⟨B, r, none⟩ := fun r h1 => World.cell?_setCell_other _ _ _ _ (fun he => by injection he with _ he; exact h1 he)
  unfold putF
  by_cases hik : i = k
  · subst hik
    rw [if_pos rfl]
    refine ⟨?_, ?_, ?_, ?_, ?_⟩
    · by_cases hr : s = 0
      · subst hr; rw [← e0 rfl]; exact World.cell?_setCell_same _ _ _ hi5.c0
      · rw [o _ (by omega), hi5.c0, h0 hr]
    · by_cases hr : s = 1
      · subst hr; rw [← e1 rfl]; exact World.cell?_setCell_same _ _ _ hi5.c1
      · rw [o _ (by omega), hi5.c1, h1 hr]
    · by_cases hr : s = 2
      · subst hr; rw [← e2 rfl]; exact World.cell?_setCell_same _ _ _ hi5.c2
      · rw [o _ (by omega), hi5.c2, h2 hr]
    · by_cases hr : s = 3
      · subst hr; rw [← e3 rfl]; exact World.cell?_setCell_same _ _ _ hi5.c3
      · rw [o _ (by omega), hi5.c3, h3 hr]
    · by_cases hr : s = 4
      · subst hr; rw [← e4 rfl]; exact World.cell?_setCell_same _ _ _ hi5.c4
      · rw [o _ (by omega), hi5.c4, h4 hr]
  · rw [if_neg hik]
    exact ⟨(o _ (by omega)).trans hi5.c0, (o _ (by omega)).trans hi5.c1, (o _ (by omega)).trans hi5.c2, (o _ (by omega)).trans hi5.c3, (o _ (by omega)).trans hi5.c4⟩

theorem PoolAt.set {w : World} {P B M n h c k s : Nat} {F : Nat → Fr} {g : Int → Option Nat} {v : Value} {f : Fr} (p : PoolAt w P B M n F h g c) (hk : k < n) (hs : s < 5) (hs0 : s ≠ 0)
    (h0 : f.key = (F k).key) (h1 : s ≠ 1 → f.used = (F k).used) (h2 : s ≠ 2 → f.ref = (F k).ref) (h3 : s ≠ 3 → f.dirty = (F k).dirty) (h4 : s ≠ 4 → f.pins = (F k).pins)
    (e1 : s = 1 → v = .bool f.used) (e2 : s = 2 → v = .bool f.ref) (e3 : s = 3 → v = .bool f.dirty) (e4 : s = 4 → v = .int .i64 f.pins) :
    PoolAt (w.setCell ⟨B, k * 5 + s, none⟩ v) P B M n (putF F k f) h g c := by
  refine p.frames (FrS.set p.fr hk hs (fun _ => h0) h1 h2 h3 h4 (fun e => absurd e hs0) e1 e2 e3 e4) (fun j => by rw [World.frozen?_setCell]; exact p.fz j) ((Off.refl (· = B) w).setCell (p := ⟨B, k * 5 + s, none⟩) rfl _) (fun i hi => ?_)
  unfold putF
  split
  · rw [h0]; exact p.kw k hk
  · exact p.kw i hi

/-- A method that answers an error and changes the pool. -/
def OpPost (P B M n : Nat) (e0 : Int) (F : Nat → Fr) (h : Nat) (g : Int → Option Nat) (w : World) (e : Ending) (w' : World) : Prop :=
  e = .returned (.int .i64 e0) ∧ (∃ c', PoolAt w' P B M n F h g c') ∧ Off (PB P B M) w w'

theorem put_put (F : Nat → Fr) (k : Nat) (a b : Fr) : putF (putF F k a) k b = putF F k b := by
  funext i; unfold putF; split <;> rfl

section
variable {w : World} {P B M n : Nat} {F : Nat → Fr} {h : Nat} {g : Int → Option Nat} {c : Nat}

set_option maxHeartbeats 400000 in
theorem Touch_yes (p : PoolAt w P B M n F h g c) (f : Nat) (write : Bool) (hf : f < n) (hu : (F f).used = true) :
    Calls Try.prog 32 #[.pointer (some ⟨P, 0, none⟩), .int .i64 f, .bool write] w (OpPost P B M n 0 (putF F f { F f with ref := true, dirty := (F f).dirty || write }) h g w) := by
  have HU := Lib.hid (used_yes p f hf hu)
  have c2 := (p.fr f hf).c2
  have c3 := (p.fr f hf).c3
  have z2 := p.fz (f * 5 + 2)
  have z3 := p.fz (f * 5 + 3)
  have HX : Hid (∀ b : Bool, b = ((F f).dirty || write) → ∀ W, W = (w.setCell ⟨B, f * 5 + 2, none⟩ (.bool true)).setCell ⟨B, f * 5 + 3, none⟩ (.bool b) → ∀ e, e = .returned (.int .i64 0) → OpPost P B M n 0 (putF F f { F f with ref := true, dirty := (F f).dirty || write }) h g w e W) := by
    rintro b rfl W rfl e rfl
    refine ⟨rfl, ⟨c, ?_⟩, ((Off.refl _ _).setCell (.inr (.inl rfl)) _).setCell (.inr (.inl rfl)) _⟩
    have p1 := p.set (f := { F f with ref := true }) (s := 2) (v := .bool true) hf (by omega) (by omega) rfl (fun _ => rfl) (fun e => absurd rfl e) (fun _ => rfl) (fun _ => rfl) (fun e => by omega) (fun _ => rfl) (fun e => by omega) (fun e => by omega)
    have p2 := p1.set (f := { F f with ref := true, dirty := (F f).dirty || write }) (s := 3) (v := .bool ((F f).dirty || write)) hf (by omega) (by omega) (by simp [putF]) (fun _ => by simp [putF]) (fun _ => by simp [putF]) (fun e => absurd rfl e) (fun _ => by simp [putF]) (fun e => by omega) (fun e => by omega) (fun _ => rfl) (fun e => by omega)
    rw [put_put] at p2
    exact p2
  clear p hu
  go_enter Try.func32, Try.ntmps32
  go_wp2_with fail
  refine HU.out.mono ?_
  rintro e w1 ⟨rfl, rfl⟩
  go_wp2
  all_goals
    go_ret
    exact HX.out _ (by simp [*]) _ rfl _ rfl
set_option maxHeartbeats 400000 in
theorem Touch_no (p : PoolAt w P B M n F h g c) (f : Int) (write : Bool) (hf : f < 0 ∨ (n : Int) ≤ f ∨ (F f.toNat).used = false) :
    Calls Try.prog 32 #[.pointer (some ⟨P, 0, none⟩), .int .i64 f, .bool write] w (OpPost P B M n 2 F h g w) := by
  have HU := Lib.hid (used_no p f hf)
  have HP := Lib.hid p
  clear p hf
  go_enter Try.func32, Try.ntmps32
  go_wp2_with fail
  refine HU.out.mono ?_
  rintro e w1 ⟨rfl, rfl⟩
  go_wp2
  go_ret
  exact ⟨rfl, ⟨c, HP.out⟩, Off.refl _ _⟩
end
end Go.Proofs.Ytmipngefpedfpaa
