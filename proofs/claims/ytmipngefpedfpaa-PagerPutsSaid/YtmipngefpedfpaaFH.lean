/- A pool of frames: Count, Clean, Drop, At (picked out of frames' texts by pick.py). -/
import Derived.Test.YtmipngefpedfpaaFG
namespace Go.Proofs.Ytmipngefpedfpaa
open Go.RowKit Go.Maps
set_option linter.unusedVariables false
set_option linter.unusedSimpArgs false

section
variable {w : World} {P B M n : Nat} {F : Nat → Fr} {h : Nat} {g : Int → Option Nat} {c : Nat}
/-- How many of the first k frames meet q. -/
def cntF (q : Fr → Bool) (F : Nat → Fr) : Nat → Nat
  | 0 => 0
  | k + 1 => cntF q F k + if q (F k) then 1 else 0
end
section
variable {w : World} {P B M n : Nat} {F : Nat → Fr} {h : Nat} {g : Int → Option Nat} {c : Nat}
theorem cntF_le (q : Fr → Bool) (F : Nat → Fr) (k : Nat) : cntF q F k ≤ k := by
  induction k with
  | zero => simp [cntF]
  | succ k ih => unfold cntF; split <;> omega
end
section
variable {w : World} {P B M n : Nat} {F : Nat → Fr} {h : Nat} {g : Int → Option Nat} {c : Nat}
theorem cntF_yes {q : Fr → Bool} {F : Nat → Fr} {k : Nat} (h : q (F k) = true) : cntF q F (k + 1) = cntF q F k + 1 := by simp [cntF, h]
end
section
variable {w : World} {P B M n : Nat} {F : Nat → Fr} {h : Nat} {g : Int → Option Nat} {c : Nat}
theorem cntF_no {q : Fr → Bool} {F : Nat → Fr} {k : Nat} (h : q (F k) = false) : cntF q F (k + 1) = cntF q F k := by simp [cntF, h]
end
section
variable {w : World} {P B M n : Nat} {F : Nat → Fr} {h : Nat} {g : Int → Option Nat} {c : Nat}
def qUsed (f : Fr) : Bool := f.used
end
section
variable {w : World} {P B M n : Nat} {F : Nat → Fr} {h : Nat} {g : Int → Option Nat} {c : Nat}
def qDirty (f : Fr) : Bool := f.dirty
end
section
variable {w : World} {P B M n : Nat} {F : Nat → Fr} {h : Nat} {g : Int → Option Nat} {c : Nat}
def qPinned (f : Fr) : Bool := decide (0 < f.pins)
end
section
variable {w : World} {P B M n : Nat} {F : Nat → Fr} {h : Nat} {g : Int → Option Nat} {c : Nat}
set_option maxRecDepth 100000 in
set_option maxHeartbeats 2000000 in
theorem Count_any (p : PoolAt w P B M n F h g c) :
    Calls Try.prog 43 #[.pointer (some ⟨P, 0, none⟩)] w fun e w' => e = .returned (.tuple #[.int .i64 (cntF qUsed F n : Nat), .int .i64 (cntF qDirty F n : Nat), .int .i64 (cntF qPinned F n : Nat)]) ∧ Below w.heap.size w w' := by
  have l0 := p.l0
  have hn := p.most
  have HP := Lib.hid p
  clear p
  go_enter Try.func43, Try.ntmps43
  go_wp2
  go_loopw [2, 3, 4, 12] (fun u d q i wr => ∃ (k a b x : Nat), k ≤ n ∧ i = .int .i64 k ∧ u = .int .i64 a ∧ d = .int .i64 b ∧ q = .int .i64 x ∧ a = cntF qUsed F k ∧ b = cntF qDirty F k ∧ x = cntF qPinned F k ∧ Below w.heap.size w wr) (fun _ _ _ i _ => n - (intOf i).toNat)
  case atStart => exact ⟨0, 0, 0, 0, Nat.zero_le _, rfl, rfl, rfl, rfl, rfl, rfl, rfl, Below.refl _ _⟩
  case round =>
    obtain ⟨k, a, b, x, hk, rfl, rfl, rfl, rfl, ha, hb, hx, hbl⟩ := hrel
    have a1 := cntF_le qUsed F k
    have b1 := cntF_le qDirty F k
    have x1 := cntF_le qPinned F k
    rw [← ha] at a1
    rw [← hb] at b1
    rw [← hx] at x1
    have HAB : Hid (a = cntF qUsed F k ∧ b = cntF qDirty F k ∧ x = cntF qPinned F k ∧ Below w.heap.size w wr) := ⟨ha, hb, hx, hbl⟩
    by_cases hlt : k < n
    · obtain ⟨c0, c1, c2, c3, c4⟩ := (HP.out.up hbl).fr k hlt
      clear ha hb hx hbl
      cases hu : (F k).used <;> cases hd : (F k).dirty <;> by_cases hp : 0 < (F k).pins
      all_goals
        go_wp2
        go_roundw
        case rel =>
          obtain ⟨ha, hb, hx, hbl⟩ := HAB.out
          refine ⟨k + 1, _, _, _, by omega, by go_num, by first | rfl | go_num, by first | rfl | go_num, by first | rfl | go_num, ?_, ?_, ?_, hbl.alloc hbl.size _⟩
          · first | (rw [cntF_yes (q := qUsed) hu, ← ha]; done) | (rw [cntF_no (q := qUsed) hu]; exact ha)
          · first | (rw [cntF_yes (q := qDirty) hd, ← hb]; done) | (rw [cntF_no (q := qDirty) hd]; exact hb)
          · first | (rw [cntF_yes (q := qPinned) (by simp [qPinned, hp]), ← hx]; done) | (rw [cntF_no (q := qPinned) (by simp [qPinned]; omega)]; exact hx)
        case measure => simp [intOf]; omega
    · clear ha hb hx hbl
      go_wp2
      go_ret3
      obtain ⟨ha, hb, hx, hbl⟩ := HAB.out
      obtain rfl : n = k := by omega
      exact ⟨by rw [← ha, ← hb, ← hx]; rfl, hbl⟩
end
section
variable {w : World} {P B M n : Nat} {F : Nat → Fr} {h : Nat} {g : Int → Option Nat} {c : Nat}
set_option maxRecDepth 100000 in
set_option maxHeartbeats 400000 in
theorem Clean_yes (p : PoolAt w P B M n F h g c) (f : Nat) (hf : f < n) (hu : (F f).used = true) :
    Calls Try.prog 38 #[.pointer (some ⟨P, 0, none⟩), .int .i64 f] w (OpPost P B M n 0 (putF F f { F f with dirty := false }) h g w) := by
  have HU := Lib.hid (used_yes p f hf hu)
  have c3 := (p.fr f hf).c3
  have z3 := p.fz (f * 5 + 3)
  have HX : Hid (OpPost P B M n 0 (putF F f { F f with dirty := false }) h g w (.returned (.int .i64 0)) (w.setCell ⟨B, f * 5 + 3, none⟩ (.bool false))) :=
    ⟨rfl, ⟨c, p.set (f := { F f with dirty := false }) (s := 3) hf (by omega) (by omega) rfl (fun _ => rfl) (fun _ => rfl) (fun e => absurd rfl e) (fun _ => rfl) (fun e => by omega) (fun e => by omega) (fun _ => rfl) (fun e => by omega)⟩, (Off.refl _ _).setCell (.inr (.inl rfl)) _⟩
  clear p hu
  go_enter Try.func38, Try.ntmps38
  go_wp2_with fail
  refine HU.out.mono ?_
  rintro e w1 ⟨rfl, rfl⟩
  go_wp2
  go_ret
  exact HX.out
end
section
variable {w : World} {P B M n : Nat} {F : Nat → Fr} {h : Nat} {g : Int → Option Nat} {c : Nat}
set_option maxRecDepth 100000 in
set_option maxHeartbeats 400000 in
theorem Clean_no (p : PoolAt w P B M n F h g c) (f : Int) (hf : f < 0 ∨ (n : Int) ≤ f ∨ (F f.toNat).used = false) :
    Calls Try.prog 38 #[.pointer (some ⟨P, 0, none⟩), .int .i64 f] w (OpPost P B M n 2 F h g w) := by
  have HU := Lib.hid (used_no p f hf)
  have HP := Lib.hid p
  clear p hf
  go_enter Try.func38, Try.ntmps38
  go_wp2_with fail
  refine HU.out.mono ?_
  rintro e w1 ⟨rfl, rfl⟩
  go_wp2
  go_ret
  exact ⟨rfl, ⟨c, HP.out⟩, Off.refl _ _⟩
end
section
variable {w : World} {P B M n : Nat} {F : Nat → Fr} {h : Nat} {g : Int → Option Nat} {c : Nat}
set_option maxRecDepth 100000 in
set_option maxHeartbeats 400000 in
theorem Drop_no (p : PoolAt w P B M n F h g c) (f : Int) (hf : f < 0 ∨ (n : Int) ≤ f ∨ (F f.toNat).used = false) :
    Calls Try.prog 44 #[.pointer (some ⟨P, 0, none⟩), .int .i64 f] w (OpPost P B M n 2 F h g w) := by
  have HU := Lib.hid (used_no p f hf)
  have HP := Lib.hid p
  clear p hf
  go_enter Try.func44, Try.ntmps44
  go_wp2_with fail
  refine HU.out.mono ?_
  rintro e w1 ⟨rfl, rfl⟩
  go_wp2
  go_ret
  exact ⟨rfl, ⟨c, HP.out⟩, Off.refl _ _⟩
end
section
variable {w : World} {P B M n : Nat} {F : Nat → Fr} {h : Nat} {g : Int → Option Nat} {c : Nat}
set_option maxRecDepth 100000 in
set_option maxHeartbeats 400000 in
theorem Drop_not (p : PoolAt w P B M n F h g c) (f : Nat) (hf : f < n) (hu : (F f).used = true) (h1 : 0 < (F f).pins) :
    Calls Try.prog 44 #[.pointer (some ⟨P, 0, none⟩), .int .i64 f] w (OpPost P B M n 9 F h g w) := by
  have HU := Lib.hid (used_yes p f hf hu)
  have c4 := (p.fr f hf).c4
  have HP := Lib.hid p
  clear p hu
  go_enter Try.func44, Try.ntmps44
  go_wp2_with fail
  refine HU.out.mono ?_
  rintro e w1 ⟨rfl, rfl⟩
  go_wp2
  go_ret
  exact ⟨rfl, ⟨c, HP.out⟩, Off.refl _ _⟩
end
section
variable {w : World} {P B M n : Nat} {F : Nat → Fr} {h : Nat} {g : Int → Option Nat} {c : Nat}
set_option maxRecDepth 100000 in
set_option maxHeartbeats 1000000 in
theorem Drop_yes (p : PoolAt w P B M n F h g c) (f : Nat) (hf : f < n) (hu : (F f).used = true) (h1 : ¬ 0 < (F f).pins) :
    Calls Try.prog 44 #[.pointer (some ⟨P, 0, none⟩), .int .i64 f] w (OpPost P B M n 0 (putF F f Fr.zero) h (upd g (F f).key none) w) := by
  have HU := Lib.hid (used_yes p f hf hu)
  have c0 := (p.fr f hf).c0
  have c4 := (p.fr f hf).c4
  have l1 := p.l1
  have HP := Lib.hid p
  clear p hu
  go_enter Try.func44, Try.ntmps44
  go_wp2_with fail
  refine HU.out.mono ?_
  rintro e w1 ⟨rfl, rfl⟩
  go_upto_region 6 with (fail)
  go_still_tail 9, (by kernel_rfl)
  obtain ⟨k1, hk1⟩ := name_key (HP.out.kw f hf)
  obtain ⟨w5, hrun, hm, ho⟩ := HP.out.drew.mp.del (t := 93) nameKeyed Try.underlying93 hk1 0
  rw [keyF_del] at hm
  have p5 := HP.out.drew.mapped hm ho
  have o5 : Off (PB P B M) w w5 := (Off.refl _ _).drew.trans (ho.mono fun k e => .inr (.inr e))
  refine wpList_delete_run rfl _ _ _ _ rfl _ _ rfl rfl hrun ?_
  clear hrun hm ho hk1 l1 c0 c4
  obtain ⟨d0, d1, d2, d3, d4⟩ := p5.fr f hf
  have z0 := p5.fz (f * 5)
  have z1 := p5.fz (f * 5 + 1)
  have z2 := p5.fz (f * 5 + 2)
  have z3 := p5.fz (f * 5 + 3)
  have z4 := p5.fz (f * 5 + 4)
  have hB : ∀ o, PB P B M (⟨B, o, none⟩ : Addr).block := fun o => .inr (.inl rfl)
  have HX : Hid (∀ W, W = (((((w5.setCell ⟨B, f * 5, none⟩ (.int .i64 0)).setCell ⟨B, f * 5 + 1, none⟩ (.bool false)).setCell ⟨B, f * 5 + 2, none⟩ (.bool false)).setCell ⟨B, f * 5 + 3, none⟩ (.bool false)).setCell ⟨B, f * 5 + 4, none⟩ (.int .i64 0)) → ∀ e, e = .returned (.int .i64 0) → OpPost P B M n 0 (putF F f Fr.zero) h (upd g (F f).key none) w e W) := by
    rintro W rfl e rfl
    exact ⟨rfl, ⟨_, p5.put (f := Fr.zero) hf (by decide)⟩, ((((o5.setCell (hB _) _).setCell (hB _) _).setCell (hB _) _).setCell (hB _) _).setCell (hB _) _⟩
  clear p5 o5 hB HP HU
  go_wp2
  go_ret
  exact HX.out _ rfl _ rfl
end
section
variable {w : World} {P B M n : Nat} {F : Nat → Fr} {h : Nat} {g : Int → Option Nat} {c : Nat}
def AtPost (f : Fr) (e0 : Int) (w : World) (e : Ending) (w' : World) : Prop := e = .returned (.tuple #[f.val, .int .i64 e0]) ∧ Below w.heap.size w w'
end
section
variable {w : World} {P B M n : Nat} {F : Nat → Fr} {h : Nat} {g : Int → Option Nat} {c : Nat}
set_option maxRecDepth 100000 in
set_option maxHeartbeats 1000000 in
theorem At_yes (p : PoolAt w P B M n F h g c) (f : Nat) (hf : f < n) :
    Calls Try.prog 49 #[.pointer (some ⟨P, 0, none⟩), .int .i64 f] w (AtPost (F f) 0 w) := by
  have l0 := p.l0
  have hn := p.most
  obtain ⟨c0, c1, c2, c3, c4⟩ := p.fr f hf
  have ltP := p.ltP
  have ltB := p.ltB
  have q1 : P < w.heap.size + 1 := by omega
  have q2 : B < w.heap.size + 1 := by omega
  clear p
  go_enter Try.func49, Try.ntmps49
  go_wp2
  refine bodyPost_ret (v := .tuple #[.agg #[.int .i64 (F f).key, .bool (F f).used, .bool (F f).ref, .bool (F f).dirty, .int .i64 (F f).pins], .int .i64 0]) (by simp [results, Try.results49, go_sem]) rfl ⟨rfl, ?_⟩
  go_grown
end
section
variable {w : World} {P B M n : Nat} {F : Nat → Fr} {h : Nat} {g : Int → Option Nat} {c : Nat}
set_option maxRecDepth 100000 in
set_option maxHeartbeats 1000000 in
theorem At_no (p : PoolAt w P B M n F h g c) (f : Int) (hf : f < 0 ∨ (n : Int) ≤ f) :
    Calls Try.prog 49 #[.pointer (some ⟨P, 0, none⟩), .int .i64 f] w (AtPost Fr.zero 2 w) := by
  have l0 := p.l0
  have hn := p.most
  have ltP := p.ltP
  clear p
  rcases hf with hf | hf
  all_goals
    go_enter Try.func49, Try.ntmps49
    go_wp2
    all_goals
      refine bodyPost_ret (v := .tuple #[.agg #[.int .i64 0, .bool false, .bool false, .bool false, .int .i64 0], .int .i64 2]) (by simp [results, Try.results49, go_sem]) rfl ⟨rfl, ?_⟩
      go_grown
end
end Go.Proofs.Ytmipngefpedfpaa
