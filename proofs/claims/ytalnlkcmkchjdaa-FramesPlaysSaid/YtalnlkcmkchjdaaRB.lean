/- The reference's Touch, Clean, Pin, Unpin, Drop, victim. -/
import Derived.Test.YtalnlkcmkchjdaaRA
namespace Go.Proofs.Ytalnlkcmkchjdaa
open Go.RowKit Go.Maps
set_option linter.unusedVariables false
set_option linter.unusedSimpArgs false

section
variable {w : World} {P B n K : Nat} {F : Nat → Fr} {h : Nat}

theorem rset_pins (p : RefAt w P B n K F h) {f : Nat} (hf : f < n) (x : Int) : RefAt (w.setCell ⟨B, f * 5 + 4, none⟩ (.int .i64 x)) P B n K (putF F f { F f with pins := x }) h :=
  p.set (f := { F f with pins := x }) (s := 4) hf (by omega) (by omega) rfl (fun _ => rfl) (fun _ => rfl) (fun _ => rfl) (fun e => absurd rfl e) (fun e => by omega) (fun e => by omega) (fun e => by omega) (fun _ => rfl)

set_option maxHeartbeats 400000 in
theorem RTouch_no (p : RefAt w P B n K F h) (f : Int) (write : Bool) (hf : f < 0 ∨ (n : Int) ≤ f ∨ (F f.toNat).used = false) :
    Calls Try.prog 29 #[.pointer (some ⟨P, 0, none⟩), .int .i64 f, .bool write] w (ROpPost P B n K 2 F h w) := by
  have HU := Lib.hid (is_no p f hf)
  have HP := Lib.hid p
  clear p hf
  go_enter Try.func29, Try.ntmps29
  go_wp2_with fail
  refine HU.out.mono ?_
  rintro e w1 ⟨rfl, rfl⟩
  go_wp2
  go_ret
  exact ⟨rfl, HP.out, Off.refl _ _⟩
set_option maxHeartbeats 1000000 in
theorem RTouch_yes (p : RefAt w P B n K F h) (f : Nat) (write : Bool) (hf : f < n) (hu : (F f).used = true) :
    Calls Try.prog 29 #[.pointer (some ⟨P, 0, none⟩), .int .i64 f, .bool write] w (ROpPost P B n K 0 (putF F f { F f with ref := true, dirty := (F f).dirty || write }) h w) := by
  have HU := Lib.hid (is_yes p f hf hu)
  have c2 := (p.fr f hf).c2
  have z2 := p.fz (f * 5 + 2)
  have l0 := p.l0
  have hn := p.most
  have HP := Lib.hid p
  have HX : Hid (∀ W, W = w.setCell ⟨B, f * 5 + 2, none⟩ (.bool true) → RefAt W P B n K (putF F f { F f with ref := true }) h ∧ Off (RB P B) w W) := by
    rintro W rfl
    exact ⟨p.set (f := { F f with ref := true }) (s := 2) (v := .bool true) hf (by omega) (by omega) rfl (fun _ => rfl) (fun e => absurd rfl e) (fun _ => rfl) (fun _ => rfl) (fun e => by omega) (fun _ => rfl) (fun e => by omega) (fun e => by omega), (Off.refl _ _).setCell (.inr rfl) _⟩
  clear p hu
  go_enter Try.func29, Try.ntmps29
  go_wp2_with fail
  refine HU.out.mono ?_
  rintro e w1 ⟨rfl, rfl⟩
  go_upto_region 4 with (fail)
  refine wp_forget (fun W => RefAt W P B n K (putF F f { F f with ref := true }) h ∧ Off (RB P B) w W) (HX.out _ rfl) ?_
  clear HX HP c2 z2 l0
  rintro w2 ⟨p, ho⟩
  have HU : Hid (putF F f { F f with ref := true } f = { F f with ref := true }) := by show _ = _; unfold putF; rw [if_pos rfl]
  have c3 := (p.fr f hf).c3
  rw [HU.out] at c3
  simp only at c3
  have z3 := p.fz (f * 5 + 3)
  have l0 := p.l0
  have HX : Hid (∀ b : Bool, b = ((F f).dirty || write) → ∀ W, W = w2.drew.setCell ⟨B, f * 5 + 3, none⟩ (.bool b) → ∀ e, e = .returned (.int .i64 0) → ROpPost P B n K 0 (putF F f { F f with ref := true, dirty := (F f).dirty || write }) h w e W) := by
    rintro b rfl W rfl e rfl
    refine ⟨rfl, ?_, ho.drew.setCell (.inr rfl) _⟩
    have p2 := p.drew.set (f := { F f with ref := true, dirty := (F f).dirty || write }) (s := 3) (v := .bool ((F f).dirty || write)) hf (by omega) (by omega) (by simp [putF]) (fun _ => by simp [putF]) (fun _ => by simp [putF]) (fun e => absurd rfl e) (fun _ => by simp [putF]) (fun e => by omega) (fun e => by omega) (fun _ => rfl) (fun e => by omega)
    rw [put_put] at p2
    exact p2
  clear p ho
  cases hd : (F f).dirty
  all_goals
    rw [hd] at c3
    have hd' := Lib.hid hd
    clear hd
    go_still_tail 18, (by kernel_rfl)
    go_wp2
    go_ret
    exact HX.out _ (by rw [hd'.out]; rfl) _ rfl _ rfl

set_option maxHeartbeats 400000 in
theorem RClean_no (p : RefAt w P B n K F h) (f : Int) (hf : f < 0 ∨ (n : Int) ≤ f ∨ (F f.toNat).used = false) :
    Calls Try.prog 31 #[.pointer (some ⟨P, 0, none⟩), .int .i64 f] w (ROpPost P B n K 2 F h w) := by
  have HU := Lib.hid (is_no p f hf)
  have HP := Lib.hid p
  clear p hf
  go_enter Try.func31, Try.ntmps31
  go_wp2_with fail
  refine HU.out.mono ?_
  rintro e w1 ⟨rfl, rfl⟩
  go_wp2
  go_ret
  exact ⟨rfl, HP.out, Off.refl _ _⟩
set_option maxHeartbeats 400000 in
theorem RClean_yes (p : RefAt w P B n K F h) (f : Nat) (hf : f < n) (hu : (F f).used = true) :
    Calls Try.prog 31 #[.pointer (some ⟨P, 0, none⟩), .int .i64 f] w (ROpPost P B n K 0 (putF F f { F f with dirty := false }) h w) := by
  have HU := Lib.hid (is_yes p f hf hu)
  have l0 := p.l0
  have hn := p.most
  have c3 := (p.fr f hf).c3
  have z3 := p.fz (f * 5 + 3)
  have HX : Hid (ROpPost P B n K 0 (putF F f { F f with dirty := false }) h w (.returned (.int .i64 0)) (w.setCell ⟨B, f * 5 + 3, none⟩ (.bool false))) :=
    ⟨rfl, p.set (f := { F f with dirty := false }) (s := 3) hf (by omega) (by omega) rfl (fun _ => rfl) (fun _ => rfl) (fun e => absurd rfl e) (fun _ => rfl) (fun e => by omega) (fun e => by omega) (fun _ => rfl) (fun e => by omega), (Off.refl _ _).setCell (.inr rfl) _⟩
  clear p hu
  go_enter Try.func31, Try.ntmps31
  go_wp2_with fail
  refine HU.out.mono ?_
  rintro e w1 ⟨rfl, rfl⟩
  go_wp2
  go_ret
  exact HX.out

set_option maxHeartbeats 400000 in
theorem RPin_no (p : RefAt w P B n K F h) (f : Int) (hf : f < 0 ∨ (n : Int) ≤ f ∨ (F f.toNat).used = false) :
    Calls Try.prog 32 #[.pointer (some ⟨P, 0, none⟩), .int .i64 f] w (ROpPost P B n K 2 F h w) := by
  have HU := Lib.hid (is_no p f hf)
  have HP := Lib.hid p
  clear p hf
  go_enter Try.func32, Try.ntmps32
  go_wp2_with fail
  refine HU.out.mono ?_
  rintro e w1 ⟨rfl, rfl⟩
  go_wp2
  go_ret
  exact ⟨rfl, HP.out, Off.refl _ _⟩
set_option maxHeartbeats 400000 in
theorem RPin_yes (p : RefAt w P B n K F h) (f : Nat) (hf : f < n) (hu : (F f).used = true) (h0 : 0 ≤ (F f).pins) (h1 : (F f).pins < 1048576) :
    Calls Try.prog 32 #[.pointer (some ⟨P, 0, none⟩), .int .i64 f] w (ROpPost P B n K 0 (putF F f { F f with pins := (F f).pins + 1 }) h w) := by
  have HU := Lib.hid (is_yes p f hf hu)
  have l0 := p.l0
  have hn := p.most
  have c4 := (p.fr f hf).c4
  have z4 := p.fz (f * 5 + 4)
  have HX : Hid (ROpPost P B n K 0 (putF F f { F f with pins := (F f).pins + 1 }) h w (.returned (.int .i64 0)) (w.setCell ⟨B, f * 5 + 4, none⟩ (.int .i64 ((F f).pins + 1)))) :=
    ⟨rfl, rset_pins p hf _, (Off.refl _ _).setCell (.inr rfl) _⟩
  clear p hu
  go_enter Try.func32, Try.ntmps32
  go_wp2_with fail
  refine HU.out.mono ?_
  rintro e w1 ⟨rfl, rfl⟩
  go_wp2
  go_ret
  exact HX.out
set_option maxHeartbeats 400000 in
theorem RPin_full (p : RefAt w P B n K F h) (f : Nat) (hf : f < n) (hu : (F f).used = true) (h1 : 1048576 ≤ (F f).pins) :
    Calls Try.prog 32 #[.pointer (some ⟨P, 0, none⟩), .int .i64 f] w (ROpPost P B n K 10 F h w) := by
  have HU := Lib.hid (is_yes p f hf hu)
  have l0 := p.l0
  have hn := p.most
  have c4 := (p.fr f hf).c4
  have HP := Lib.hid p
  clear p hu
  go_enter Try.func32, Try.ntmps32
  go_wp2_with fail
  refine HU.out.mono ?_
  rintro e w1 ⟨rfl, rfl⟩
  go_wp2
  go_ret
  exact ⟨rfl, HP.out, Off.refl _ _⟩

set_option maxHeartbeats 400000 in
theorem RUnpin_no (p : RefAt w P B n K F h) (f : Int) (hf : f < 0 ∨ (n : Int) ≤ f ∨ (F f.toNat).used = false) :
    Calls Try.prog 33 #[.pointer (some ⟨P, 0, none⟩), .int .i64 f] w (ROpPost P B n K 2 F h w) := by
  have HU := Lib.hid (is_no p f hf)
  have HP := Lib.hid p
  clear p hf
  go_enter Try.func33, Try.ntmps33
  go_wp2_with fail
  refine HU.out.mono ?_
  rintro e w1 ⟨rfl, rfl⟩
  go_wp2
  go_ret
  exact ⟨rfl, HP.out, Off.refl _ _⟩
set_option maxHeartbeats 400000 in
theorem RUnpin_yes (p : RefAt w P B n K F h) (f : Nat) (hf : f < n) (hu : (F f).used = true) (h0 : 0 < (F f).pins) (h1 : (F f).pins ≤ 1048576) :
    Calls Try.prog 33 #[.pointer (some ⟨P, 0, none⟩), .int .i64 f] w (ROpPost P B n K 0 (putF F f { F f with pins := (F f).pins - 1 }) h w) := by
  have HU := Lib.hid (is_yes p f hf hu)
  have l0 := p.l0
  have hn := p.most
  have c4 := (p.fr f hf).c4
  have z4 := p.fz (f * 5 + 4)
  have hne : ((F f).pins == 0) = false := by simp; omega
  have HX : Hid (ROpPost P B n K 0 (putF F f { F f with pins := (F f).pins - 1 }) h w (.returned (.int .i64 0)) (w.setCell ⟨B, f * 5 + 4, none⟩ (.int .i64 ((F f).pins - 1)))) :=
    ⟨rfl, rset_pins p hf _, (Off.refl _ _).setCell (.inr rfl) _⟩
  clear p hu
  go_enter Try.func33, Try.ntmps33
  go_wp2_with fail
  refine HU.out.mono ?_
  rintro e w1 ⟨rfl, rfl⟩
  go_wp2
  go_ret
  exact HX.out
set_option maxHeartbeats 400000 in
theorem RUnpin_not (p : RefAt w P B n K F h) (f : Nat) (hf : f < n) (hu : (F f).used = true) (h1 : (F f).pins = 0) :
    Calls Try.prog 33 #[.pointer (some ⟨P, 0, none⟩), .int .i64 f] w (ROpPost P B n K 9 F h w) := by
  have HU := Lib.hid (is_yes p f hf hu)
  have l0 := p.l0
  have hn := p.most
  have c4 := (p.fr f hf).c4
  rw [h1] at c4
  have HP := Lib.hid p
  clear p hu h1
  go_enter Try.func33, Try.ntmps33
  go_wp2_with fail
  refine HU.out.mono ?_
  rintro e w1 ⟨rfl, rfl⟩
  go_wp2
  go_ret
  exact ⟨rfl, HP.out, Off.refl _ _⟩

set_option maxHeartbeats 400000 in
theorem RDrop_no (p : RefAt w P B n K F h) (f : Int) (hf : f < 0 ∨ (n : Int) ≤ f ∨ (F f.toNat).used = false) :
    Calls Try.prog 34 #[.pointer (some ⟨P, 0, none⟩), .int .i64 f] w (ROpPost P B n K 2 F h w) := by
  have HU := Lib.hid (is_no p f hf)
  have HP := Lib.hid p
  clear p hf
  go_enter Try.func34, Try.ntmps34
  go_wp2_with fail
  refine HU.out.mono ?_
  rintro e w1 ⟨rfl, rfl⟩
  go_wp2
  go_ret
  exact ⟨rfl, HP.out, Off.refl _ _⟩
set_option maxHeartbeats 400000 in
theorem RDrop_not (p : RefAt w P B n K F h) (f : Nat) (hf : f < n) (hu : (F f).used = true) (h1 : 0 < (F f).pins) :
    Calls Try.prog 34 #[.pointer (some ⟨P, 0, none⟩), .int .i64 f] w (ROpPost P B n K 9 F h w) := by
  have HU := Lib.hid (is_yes p f hf hu)
  have l0 := p.l0
  have hn := p.most
  have c4 := (p.fr f hf).c4
  have HP := Lib.hid p
  clear p hu
  go_enter Try.func34, Try.ntmps34
  go_wp2_with fail
  refine HU.out.mono ?_
  rintro e w1 ⟨rfl, rfl⟩
  go_wp2
  go_ret
  exact ⟨rfl, HP.out, Off.refl _ _⟩
set_option maxHeartbeats 1000000 in
theorem RDrop_yes (p : RefAt w P B n K F h) (f : Nat) (hf : f < n) (hu : (F f).used = true) (h1 : ¬ 0 < (F f).pins) :
    Calls Try.prog 34 #[.pointer (some ⟨P, 0, none⟩), .int .i64 f] w (ROpPost P B n K 0 (putF F f Fr.zero) h w) := by
  have HU := Lib.hid (is_yes p f hf hu)
  have l0 := p.l0
  have hn := p.most
  obtain ⟨d0, d1, d2, d3, d4⟩ := p.fr f hf
  have z0 := p.fz (f * 5)
  have z1 := p.fz (f * 5 + 1)
  have z2 := p.fz (f * 5 + 2)
  have z3 := p.fz (f * 5 + 3)
  have z4 := p.fz (f * 5 + 4)
  have hB : ∀ o, RB P B (⟨B, o, none⟩ : Addr).block := fun o => .inr rfl
  have HX : Hid (∀ W, W = (((((w.setCell ⟨B, f * 5, none⟩ (.int .i64 0)).setCell ⟨B, f * 5 + 1, none⟩ (.bool false)).setCell ⟨B, f * 5 + 2, none⟩ (.bool false)).setCell ⟨B, f * 5 + 3, none⟩ (.bool false)).setCell ⟨B, f * 5 + 4, none⟩ (.int .i64 0)) → ∀ e, e = .returned (.int .i64 0) → ROpPost P B n K 0 (putF F f Fr.zero) h w e W) := by
    rintro W rfl e rfl
    exact ⟨rfl, p.put (f := Fr.zero) hf, (((((Off.refl _ _).setCell (hB _) _).setCell (hB _) _).setCell (hB _) _).setCell (hB _) _).setCell (hB _) _⟩
  clear p hu hB
  go_enter Try.func34, Try.ntmps34
  go_wp2_with fail
  refine HU.out.mono ?_
  rintro e w1 ⟨rfl, rfl⟩
  go_wp2
  go_ret
  exact HX.out _ rfl _ rfl
end

/-- Is there one among the first k that may be given up? -/
def anyC (F : Nat → Fr) : Nat → Bool
  | 0 => false
  | k + 1 => anyC F k || ((F k).used && (F k).pins == 0)
theorem anyC_iff (F : Nat → Fr) (k : Nat) : anyC F k = true ↔ ∃ i, i < k ∧ (F i).used = true ∧ (F i).pins = 0 := by
  induction k with
  | zero => simp [anyC]
  | succ k ih =>
    unfold anyC
    rw [Bool.or_eq_true, ih]
    constructor
    · rintro (⟨i, h1, h2⟩ | h)
      · exact ⟨i, by omega, h2⟩
      · simp at h
        exact ⟨k, by omega, h⟩
    · rintro ⟨i, h1, h2, h3⟩
      rcases Nat.lt_or_ge i k with h | h
      · exact .inl ⟨i, h, h2, h3⟩
      · have : i = k := by omega
        subst this
        simp [h2, h3]

/-- The state at the head of victim's second loop. -/
structure VicAt (w : World) (P B n K h : Nat) (F : Nat → Fr) (d : Nat) (wr : World) : Prop where
  ex : ∃ k F', RefAt wr P B n K F' k ∧ sw n d k F' = sw n (2 * n + 1) h F
  off : Off (RB P B) w wr

def VicPost (P B n K : Nat) (r : Int) (F : Nat → Fr) (h : Nat) (w : World) (e : Ending) (w' : World) : Prop :=
  e = .returned (.int .i64 r) ∧ RefAt w' P B n K F h ∧ Off (RB P B) w w'

section
variable {w : World} {P B n K : Nat} {F : Nat → Fr} {h : Nat}
set_option maxHeartbeats 2000000 in
theorem victim_none (p : RefAt w P B n K F h) (hno : anyC F n = false) :
    Calls Try.prog 40 #[.pointer (some ⟨P, 0, none⟩)] w (VicPost P B n K (-1) F h w) := by
  have l0 := p.l0
  have hn := p.most
  have HP := Lib.hid p
  have HN := Lib.hid hno
  clear p hno
  go_enter Try.func40, Try.ntmps40
  go_wp2
  go_loop [3, 4] (fun t i => ∃ (k : Nat) (b : Bool), k ≤ n ∧ i = .int .i64 k ∧ t = .bool b ∧ b = anyC F k) (fun _ i => n - (intOf i).toNat)
  case atStart => exact ⟨0, false, Nat.zero_le _, rfl, rfl, rfl⟩
  case round =>
    obtain ⟨k, b, hk, rfl, rfl, hb⟩ := hrel
    have HB := Lib.hid hb
    clear hb
    by_cases hlt : k < n
    · obtain ⟨c0, c1, c2, c3, c4⟩ := HP.out.fr k hlt
      cases b <;> cases hu : (F k).used <;> cases hq : ((F k).pins == 0)
      all_goals
        rw [hu] at c1
        have HU := Lib.hid hu
        clear hu
        go_wp2
        go_round
        case rel => exact ⟨k + 1, _, by omega, by go_num, rfl, by unfold anyC; rw [← HB.out, HU.out, hq]; rfl⟩
        case measure => simp [intOf]; omega
    · obtain rfl : n = k := by omega
      have e := HB.out
      rw [HN.out] at e
      subst e
      go_wp2
      go_ret
      exact ⟨rfl, HP.out, Off.refl _ _⟩

set_option maxHeartbeats 4000000 in
theorem victim_some {r : Nat} {F1 : Nat → Fr} (p : RefAt w P B n K F h) (hyes : anyC F n = true) (hs : sw n (2 * n + 1) h F = ((r : Int), F1)) :
    Calls Try.prog 40 #[.pointer (some ⟨P, 0, none⟩)] w (VicPost P B n K r F1 ((r + 1) % n) w) := by
  have l0 := p.l0
  have hn := p.most
  have hpos := p.pos
  have HP := Lib.hid p
  have HN := Lib.hid hyes
  have HS := Lib.hid hs
  clear p hyes hs
  go_enter Try.func40, Try.ntmps40
  go_wp2
  go_loop [3, 4] (fun t i => ∃ (k : Nat) (b : Bool), k ≤ n ∧ i = .int .i64 k ∧ t = .bool b ∧ b = anyC F k) (fun _ i => n - (intOf i).toNat)
  case atStart => exact ⟨0, false, Nat.zero_le _, rfl, rfl, rfl⟩
  case round =>
    obtain ⟨k, b, hk, rfl, rfl, hb⟩ := hrel
    have HB := Lib.hid hb
    clear hb
    by_cases hlt : k < n
    · obtain ⟨c0, c1, c2, c3, c4⟩ := HP.out.fr k hlt
      cases b <;> cases hu : (F k).used <;> cases hq : ((F k).pins == 0)
      all_goals
        rw [hu] at c1
        have HU := Lib.hid hu
        clear hu
        go_wp2
        go_round
        case rel => exact ⟨k + 1, _, by omega, by go_num, rfl, by unfold anyC; rw [← HB.out, HU.out, hq]; rfl⟩
        case measure => simp [intOf]; omega
    · obtain rfl : n = k := by omega
      have e := HB.out
      rw [HN.out] at e
      subst e
      go_wp2
      have H0 : Hid (VicAt w P B n K h F (2 * n + 1) w) := ⟨⟨h, F, HP.out, rfl⟩, Off.refl _ _⟩
      clear l0 HB
      go_loopg [5] (2 * n + 1) (fun d _ wr => VicAt w P B n K h F d wr)
      case atStart => exact H0.out
      case round =>
        obtain ⟨⟨k, F', q, hrun⟩, ho⟩ := hrel
        have hd : ∃ d, gk = d + 1 := by
          cases gk with
          | zero =>
            rw [HS.out] at hrun
            have e1 := congrArg Prod.fst hrun
            simp [sw] at e1
          | succ d => exact ⟨d, rfl⟩
        obtain ⟨d, rfl⟩ := hd
        have hk := q.hand
        have l0 := q.l0
        have l1 := q.l1
        have z := q.lz 1
        have hm : ((k : Int) + 1) % (n : Int) = (((k + 1) % n : Nat) : Int) := by rw [Int.natCast_emod]; simp
        have hml : (k + 1) % n < n := Nat.mod_lt _ hpos
        have HX : Hid (∀ W, W = wr.setCell ⟨P, 1, none⟩ (.int .i64 (((k : Int) + 1) % (n : Int))) → RefAt W P B n K F' ((k + 1) % n) ∧ Off (RB P B) w W) := by
          rintro W rfl
          rw [hm]
          exact ⟨q.moved hml, ho.setCell (.inl rfl) _⟩
        have HR := Lib.hid hrun
        clear H0 q ho hm hrun
        go_upto_region 10 with (fail)
        refine wp_forget (fun W => RefAt W P B n K F' ((k + 1) % n) ∧ Off (RB P B) w W) (HX.out _ rfl) ?_
        clear HX l0 l1 z
        rintro w2 ⟨q, ho⟩
        have l0 := q.l0
        obtain ⟨c0, c1, c2, c3, c4⟩ := q.fr k hk
        have z2 := q.fz (k * 5 + 2)
        have HQ := Lib.hid q
        have HO := Lib.hid ho
        clear q ho
        cases hu : (F' k).used
        · have HK : Hid (VicAt w P B n K h F d w2) := ⟨⟨_, _, HQ.out, by rw [← HR.out, sw_skip (by simp [hu])]⟩, HO.out⟩
          rw [hu] at c1
          clear hu
          go_wp2
          go_roundg d
          case measure => omega
          case rel => exact HK.out
        · rw [hu] at c1
          have HU := Lib.hid hu
          clear hu
          by_cases hpin : 0 < (F' k).pins
          · have HK : Hid (VicAt w P B n K h F d w2) := ⟨⟨_, _, HQ.out, by rw [← HR.out, sw_skip (by simp [HU.out, hpin])]⟩, HO.out⟩
            go_wp2
            go_roundg d
            case measure => omega
            case rel => exact HK.out
          · cases hrf : (F' k).ref
            · have HK : Hid (((r : Int), F1) = ((k : Int), F')) := by
                show _ = _
                rw [← HS.out, ← HR.out, sw_found (by simp [HU.out]; omega) hrf]
              rw [hrf] at c2
              clear hrf
              go_wp2
              go_ret
              have e1 := congrArg Prod.fst HK.out
              have e2 := congrArg Prod.snd HK.out
              simp only at e1 e2
              obtain rfl : r = k := by omega
              subst e2
              exact ⟨rfl, HQ.out, HO.out⟩
            · have HK : Hid (VicAt w P B n K h F d (w2.setCell ⟨B, k * 5 + 2, none⟩ (.bool false))) :=
                ⟨⟨_, clr F' k, HQ.out.frames (HQ.out.fr.clr hk) (fun j => by rw [World.frozen?_setCell]; exact HQ.out.fz j) ((Off.refl (· = B) _).setCell (p := ⟨B, k * 5 + 2, none⟩) rfl _), by rw [← HR.out, sw_clr (by simp [HU.out]; omega) hrf]⟩, HO.out.setCell (.inr rfl) _⟩
              rw [hrf] at c2
              clear hrf
              go_wp2
              go_roundg d
              case measure => omega
              case rel => exact HK.out
end
end Go.Proofs.Ytalnlkcmkchjdaa
