/- Unpin, Clean, Drop, At. -/
import Derived.Test.YtalnlkcmkchjdaaFH
namespace Go.Proofs.Ytalnlkcmkchjdaa
open Go.RowKit Go.Maps
set_option linter.unusedVariables false
set_option linter.unusedSimpArgs false

section
variable {w : World} {P B M n : Nat} {F : Nat → Fr} {h : Nat} {g : Int → Option Nat} {c : Nat}

set_option maxHeartbeats 400000 in
theorem Unpin_yes (p : PoolAt w P B M n F h g c) (f : Nat) (hf : f < n) (hu : (F f).used = true) (h0 : 0 < (F f).pins) (h1 : (F f).pins ≤ 1048576) :
    Calls Try.prog 16 #[.pointer (some ⟨P, 0, none⟩), .int .i64 f] w (OpPost P B M n 0 (putF F f { F f with pins := (F f).pins - 1 }) h g w) := by
  have HU := Lib.hid (used_yes p f hf hu)
  have c4 := (p.fr f hf).c4
  have z4 := p.fz (f * 5 + 4)
  have HX : Hid (OpPost P B M n 0 (putF F f { F f with pins := (F f).pins - 1 }) h g w (.returned (.int .i64 0)) (w.setCell ⟨B, f * 5 + 4, none⟩ (.int .i64 ((F f).pins - 1)))) :=
    ⟨rfl, ⟨c, set_pins p hf _⟩, (Off.refl _ _).setCell (.inr (.inl rfl)) _⟩
  clear p hu
  go_enter Try.func16, Try.ntmps16
  go_wp2_with fail
  refine HU.out.mono ?_
  rintro e w1 ⟨rfl, rfl⟩
  go_wp2
  go_ret
  exact HX.out
set_option maxHeartbeats 400000 in
theorem Unpin_not (p : PoolAt w P B M n F h g c) (f : Nat) (hf : f < n) (hu : (F f).used = true) (h1 : (F f).pins = 0) :
    Calls Try.prog 16 #[.pointer (some ⟨P, 0, none⟩), .int .i64 f] w (OpPost P B M n 9 F h g w) := by
  have HU := Lib.hid (used_yes p f hf hu)
  have c4 := (p.fr f hf).c4
  rw [h1] at c4
  have HP := Lib.hid p
  clear p hu h1
  go_enter Try.func16, Try.ntmps16
  go_wp2_with fail
  refine HU.out.mono ?_
  rintro e w1 ⟨rfl, rfl⟩
  go_wp2
  go_ret
  exact ⟨rfl, ⟨c, HP.out⟩, Off.refl _ _⟩
set_option maxHeartbeats 400000 in
theorem Unpin_no (p : PoolAt w P B M n F h g c) (f : Int) (hf : f < 0 ∨ (n : Int) ≤ f ∨ (F f.toNat).used = false) :
    Calls Try.prog 16 #[.pointer (some ⟨P, 0, none⟩), .int .i64 f] w (OpPost P B M n 2 F h g w) := by
  have HU := Lib.hid (used_no p f hf)
  have HP := Lib.hid p
  clear p hf
  go_enter Try.func16, Try.ntmps16
  go_wp2_with fail
  refine HU.out.mono ?_
  rintro e w1 ⟨rfl, rfl⟩
  go_wp2
  go_ret
  exact ⟨rfl, ⟨c, HP.out⟩, Off.refl _ _⟩

set_option maxHeartbeats 400000 in
theorem Clean_yes (p : PoolAt w P B M n F h g c) (f : Nat) (hf : f < n) (hu : (F f).used = true) :
    Calls Try.prog 30 #[.pointer (some ⟨P, 0, none⟩), .int .i64 f] w (OpPost P B M n 0 (putF F f { F f with dirty := false }) h g w) := by
  have HU := Lib.hid (used_yes p f hf hu)
  have c3 := (p.fr f hf).c3
  have z3 := p.fz (f * 5 + 3)
  have HX : Hid (OpPost P B M n 0 (putF F f { F f with dirty := false }) h g w (.returned (.int .i64 0)) (w.setCell ⟨B, f * 5 + 3, none⟩ (.bool false))) :=
    ⟨rfl, ⟨c, p.set (f := { F f with dirty := false }) (s := 3) hf (by omega) (by omega) rfl (fun _ => rfl) (fun _ => rfl) (fun e => absurd rfl e) (fun _ => rfl) (fun e => by omega) (fun e => by omega) (fun _ => rfl) (fun e => by omega)⟩, (Off.refl _ _).setCell (.inr (.inl rfl)) _⟩
  clear p hu
  go_enter Try.func30, Try.ntmps30
  go_wp2_with fail
  refine HU.out.mono ?_
  rintro e w1 ⟨rfl, rfl⟩
  go_wp2
  go_ret
  exact HX.out
set_option maxHeartbeats 400000 in
theorem Clean_no (p : PoolAt w P B M n F h g c) (f : Int) (hf : f < 0 ∨ (n : Int) ≤ f ∨ (F f.toNat).used = false) :
    Calls Try.prog 30 #[.pointer (some ⟨P, 0, none⟩), .int .i64 f] w (OpPost P B M n 2 F h g w) := by
  have HU := Lib.hid (used_no p f hf)
  have HP := Lib.hid p
  clear p hf
  go_enter Try.func30, Try.ntmps30
  go_wp2_with fail
  refine HU.out.mono ?_
  rintro e w1 ⟨rfl, rfl⟩
  go_wp2
  go_ret
  exact ⟨rfl, ⟨c, HP.out⟩, Off.refl _ _⟩

set_option maxHeartbeats 400000 in
theorem Drop_no (p : PoolAt w P B M n F h g c) (f : Int) (hf : f < 0 ∨ (n : Int) ≤ f ∨ (F f.toNat).used = false) :
    Calls Try.prog 15 #[.pointer (some ⟨P, 0, none⟩), .int .i64 f] w (OpPost P B M n 2 F h g w) := by
  have HU := Lib.hid (used_no p f hf)
  have HP := Lib.hid p
  clear p hf
  go_enter Try.func15, Try.ntmps15
  go_wp2_with fail
  refine HU.out.mono ?_
  rintro e w1 ⟨rfl, rfl⟩
  go_wp2
  go_ret
  exact ⟨rfl, ⟨c, HP.out⟩, Off.refl _ _⟩
set_option maxHeartbeats 400000 in
theorem Drop_not (p : PoolAt w P B M n F h g c) (f : Nat) (hf : f < n) (hu : (F f).used = true) (h1 : 0 < (F f).pins) :
    Calls Try.prog 15 #[.pointer (some ⟨P, 0, none⟩), .int .i64 f] w (OpPost P B M n 9 F h g w) := by
  have HU := Lib.hid (used_yes p f hf hu)
  have c4 := (p.fr f hf).c4
  have HP := Lib.hid p
  clear p hu
  go_enter Try.func15, Try.ntmps15
  go_wp2_with fail
  refine HU.out.mono ?_
  rintro e w1 ⟨rfl, rfl⟩
  go_wp2
  go_ret
  exact ⟨rfl, ⟨c, HP.out⟩, Off.refl _ _⟩
set_option maxHeartbeats 1000000 in
theorem Drop_yes (p : PoolAt w P B M n F h g c) (f : Nat) (hf : f < n) (hu : (F f).used = true) (h1 : ¬ 0 < (F f).pins) :
    Calls Try.prog 15 #[.pointer (some ⟨P, 0, none⟩), .int .i64 f] w (OpPost P B M n 0 (putF F f Fr.zero) h (upd g (F f).key none) w) := by
  have HU := Lib.hid (used_yes p f hf hu)
  have c0 := (p.fr f hf).c0
  have c4 := (p.fr f hf).c4
  have l1 := p.l1
  have HP := Lib.hid p
  clear p hu
  go_enter Try.func15, Try.ntmps15
  go_wp2_with fail
  refine HU.out.mono ?_
  rintro e w1 ⟨rfl, rfl⟩
  go_upto_region 6 with (fail)
  go_still_tail 9, (by kernel_rfl)
  obtain ⟨k1, hk1⟩ := name_key (HP.out.kw f hf)
  obtain ⟨w5, hrun, hm, ho⟩ := HP.out.drew.mp.del (t := 53) nameKeyed Try.underlying53 hk1 0
  rw [keyF_del] at hm
  have p5 := HP.out.drew.mapped hm ho
  have o5 : Off (PB P B M) w w5 := (Off.refl _ _).drew.trans (ho.mono fun k e => .inr (.inr e))
  refine wpList_delete_run rfl _ _ _ _ rfl _ _ rfl rfl hrun ?_
  clear hrun hm ho hk1 l1 c0 c4
  obtain ⟨d0, d1, d2, d3, d4⟩ := p5.fr f hf
  have z0 := p5.fz (f * 5)
  have z1 := p5.fz (f * 5 + 1)
  have z2 := p5.fz (f * 5 + 2)
  have z3 := p5.fz (f * 5 + 3)
  have z4 := p5.fz (f * 5 + 4)
  have hB : ∀ o, PB P B M (⟨B, o, none⟩ : Addr).block := fun o => .inr (.inl rfl)
  have HX : Hid (∀ W, W = (((((w5.setCell ⟨B, f * 5, none⟩ (.int .i64 0)).setCell ⟨B, f * 5 + 1, none⟩ (.bool false)).setCell ⟨B, f * 5 + 2, none⟩ (.bool false)).setCell ⟨B, f * 5 + 3, none⟩ (.bool false)).setCell ⟨B, f * 5 + 4, none⟩ (.int .i64 0)) → ∀ e, e = .returned (.int .i64 0) → OpPost P B M n 0 (putF F f Fr.zero) h (upd g (F f).key none) w e W) := by
    rintro W rfl e rfl
    exact ⟨rfl, ⟨_, p5.put (f := Fr.zero) hf (by decide)⟩, ((((o5.setCell (hB _) _).setCell (hB _) _).setCell (hB _) _).setCell (hB _) _).setCell (hB _) _⟩
  clear p5 o5 hB HP HU
  go_wp2
  go_ret
  exact HX.out _ rfl _ rfl

def AtPost (f : Fr) (e0 : Int) (w : World) (e : Ending) (w' : World) : Prop := e = .returned (.tuple #[f.val, .int .i64 e0]) ∧ Below w.heap.size w w'

set_option maxHeartbeats 1000000 in
theorem At_yes (p : PoolAt w P B M n F h g c) (f : Nat) (hf : f < n) :
    Calls Try.prog 14 #[.pointer (some ⟨P, 0, none⟩), .int .i64 f] w (AtPost (F f) 0 w) := by
  have l0 := p.l0
  have hn := p.most
  obtain ⟨c0, c1, c2, c3, c4⟩ := p.fr f hf
  have ltP := p.ltP
  have ltB := p.ltB
  have q1 : P < w.heap.size + 1 := by omega
  have q2 : B < w.heap.size + 1 := by omega
  clear p
  go_enter Try.func14, Try.ntmps14
  go_wp2
  refine bodyPost_ret (v := .tuple #[.agg #[.int .i64 (F f).key, .bool (F f).used, .bool (F f).ref, .bool (F f).dirty, .int .i64 (F f).pins], .int .i64 0]) (by simp [results, Try.results14, go_sem]) rfl ⟨rfl, ?_⟩
  go_grown
set_option maxHeartbeats 1000000 in
theorem At_no (p : PoolAt w P B M n F h g c) (f : Int) (hf : f < 0 ∨ (n : Int) ≤ f) :
    Calls Try.prog 14 #[.pointer (some ⟨P, 0, none⟩), .int .i64 f] w (AtPost Fr.zero 2 w) := by
  have l0 := p.l0
  have hn := p.most
  have ltP := p.ltP
  clear p
  rcases hf with hf | hf
  all_goals
    go_enter Try.func14, Try.ntmps14
    go_wp2
    all_goals
      refine bodyPost_ret (v := .tuple #[.agg #[.int .i64 0, .bool false, .bool false, .bool false, .int .i64 0], .int .i64 2]) (by simp [results, Try.results14, go_sem]) rfl ⟨rfl, ?_⟩
      go_grown
end
end Go.Proofs.Ytalnlkcmkchjdaa
