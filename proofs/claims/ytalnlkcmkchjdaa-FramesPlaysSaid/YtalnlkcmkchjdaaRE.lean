/- The reference's Victim; the law's same; the state of FramesPlays and its acts, on both. -/
import Derived.Test.YtalnlkcmkchjdaaRD
namespace Go.Proofs.Ytalnlkcmkchjdaa
open Go.RowKit Go.Maps
set_option linter.unusedVariables false
set_option linter.unusedSimpArgs false

section
variable {w : World} {P B M n K : Nat} {F : Nat → Fr} {h : Nat} {g : Int → Option Nat} {c : Nat}
theorem copy_ref {w w1 : World} {P B n K gg cap h : Nat} {F : Nat → Fr} {t : TypeId} (p : RefAt w P B n K F h) (f1 : FrS w1 gg n F) (f2 : ∀ j, w1.frozen? ⟨gg, j, none⟩ = false) :
    RefAt (w1.alloc (.cells #[.slice (some ⟨gg, 0, none⟩) n cap, .int .i64 h] t)) w1.heap.size gg n cap F h := by
  have b3 : (w1.alloc (.cells #[.slice (some ⟨gg, 0, none⟩) n cap, .int .i64 h] t)).heap[w1.heap.size]? = some (.cells #[.slice (some ⟨gg, 0, none⟩) n cap, .int .i64 h] t (0, 0)) := heap_alloc_new w1 _
  have hl := lt_of_cell (f1 0 p.pos).c0
  have hb : Below w1.heap.size w1 (w1.alloc (.cells #[.slice (some ⟨gg, 0, none⟩) n cap, .int .i64 h] t)) := (Below.refl _ _).alloc (Nat.le_refl _) _
  refine ⟨?_, ?_, fun i => ?_, fun i hi => (f1 i hi).up hb, fun j => ?_, by omega, p.pos, p.most, p.hand⟩
  · rw [cell_of_row _ _ _ _ _ _ b3]; rfl
  · rw [cell_of_row _ _ _ _ _ _ b3]; rfl
  · unfold World.frozen?; rw [b3]; simp
  · rw [hb.frozen (p := ⟨gg, j, none⟩) hl]; exact f2 j

set_option maxHeartbeats 4000000 in
theorem RVictim_any (p : RefAt w P B n K F h) (I : KInv n F g) :
    Calls Try.prog 39 #[.pointer (some ⟨P, 0, none⟩)] w (VPost (sw n (2 * n + 1) h F).1 w) := by
  obtain ⟨i0, hi, hz0, hz1, hz2⟩ := info_parts rframe_info
  have l0 := p.l0
  have l1 := p.l1
  have hn := p.most
  have hpos := p.pos
  have ltP := p.ltP
  have ltB := p.ltB
  have HV := Lib.hid (vic_cases I p.hand)
  have HP := Lib.hid p
  clear p I
  go_enter Try.func39, Try.ntmps39
  go_wp2
  go_region_held3 (fun w' => w'.cell? ⟨P, 0, none⟩ = some (.slice (some ⟨B, 0, none⟩) n K) ∧ w'.cell? ⟨P, 1, none⟩ = some (.int .i64 h))
    (first | go_keep | (refine ⟨?_, ?_⟩ <;> (rw [hgrow.cell_far _ (by simp; omega) (by simp [Value.ownBlock]; omega)]; simp [*])))
    ((refine step_append_lies _ (by rfl) _ _ _ (by rfl) w.heap.size 67 i0 _ 5 24 Try.underlying64 hi hz0 hz1 hz2 rfl (by omega) _ 0 [] (by rfl) ((World.ownsRow_made w #[] 0 (Nat.le_refl _) (by unfold maxLen; omega) (by simp)).drew) ⟨B, 0, none⟩ n K (rowF F n) (by rfl) (rowF_len F n) (FrS.row (fun i hi => (HP.out.fr i hi).up (((Below.refl _ _).alloc (Nat.le_refl _) _).drew))) (rowF_one F n) hpos (by unfold maxLen; omega) (by omega) (by simp) (w.heap.size + 1) (by simp) ?_; intro gg cap w1 hown hgrow hat hlt))
  simp only [List.nil_append, Nat.zero_add] at hown
  obtain ⟨f1, f2⟩ := frS_own hown
  have HX : Hid (RefAt (w1.alloc (.cells #[.slice (some ⟨gg, 0, none⟩) n cap, .int .i64 h] 66)) w1.heap.size gg n cap F h) := copy_ref HP.out f1 f2
  have hg1 := (hown.lt gg rfl).1
  have HB1 : Hid (Below w.heap.size w w1) := Below.grown (((Below.refl _ _).alloc (Nat.le_refl _) _).drew) hgrow (by simp) fun k hk => by
    have h1 : some w.heap.size = some k := hk
    have h2 := Option.some.inj h1
    omega
  have hs1 : w.heap.size ≤ w1.heap.size := HB1.out.size
  clear hown hgrow hat hlt f1 f2 HP
  have HBB : Hid (∀ w3, Off (RB w1.heap.size gg) (w1.alloc (.cells #[.slice (some ⟨gg, 0, none⟩) n cap, .int .i64 h] 66)) w3 → Below w.heap.size w w3) := by
    intro w3 ho
    have hb := HB1.out.alloc hs1 (.cells #[.slice (some ⟨gg, 0, none⟩) n cap, .int .i64 h] 66)
    refine hb.trans (ho.below (fun k hk => ?_) hb.size)
    rcases hk with rfl | rfl
    · exact hs1
    · exact hg1
  rcases HV.out with ⟨hany, hv⟩ | ⟨r, hany, hr, hv⟩
  · have HW := Lib.hid hv
    have HN := Lib.hid hany
    clear HV hv hany
    go_wp2_with fail
    refine (victim_none HX.out HN.out).mono ?_
    rintro e w3 ⟨rfl, _, o3⟩
    have HB3 := Lib.hid (HBB.out w3 o3)
    clear o3
    go_wp2
    go_ret2
    exact ⟨by rw [HW.out]; rfl, HB3.out⟩
  · have HW := Lib.hid hv
    have HN := Lib.hid hany
    clear HV hv hany
    go_wp2_with fail
    refine (victim_some HX.out HN.out HW.out).mono ?_
    rintro e w3 ⟨rfl, _, o3⟩
    have HB3 := Lib.hid (HBB.out w3 o3)
    clear o3
    go_wp2
    go_ret2
    exact ⟨by rw [HW.out]; unfold vicV; simp, HB3.out⟩
end

set_option maxHeartbeats 1000000 in
theorem same_any (f : Fr) (w : World) :
    Calls Try.prog 28 #[.agg #[.int .i64 f.key, .bool f.used, .bool f.ref, .bool f.dirty, .int .i64 f.pins], .agg #[.int .i64 f.key, .bool f.used, .bool f.ref, .bool f.dirty, .int .i64 f.pins]] w fun e w' => e = .returned (.bool true) ∧ Below w.heap.size w w' := by
  go_enter Try.func28, Try.ntmps28
  go_wp2
  go_ret
  exact ⟨rfl, by go_grown⟩

/-- The program's pool and the reference's. -/
structure PlAt (W0 : World) (P B M RP Rb n K : Nat) (F : Nat → Fr) (h : Nat) (g : Int → Option Nat) (F2 : Nat → Fr) (h2 : Nat) (wr : World) : Prop where
  pool : ∃ c, PoolAt wr P B M n F h g c
  ref : RefAt wr RP Rb n K F2 h2
  sep : ∀ k, PB P B M k → RB RP Rb k → False
  below : Below W0.heap.size W0 wr
  ge : W0.heap.size ≤ P ∧ W0.heap.size ≤ B ∧ W0.heap.size ≤ M ∧ W0.heap.size ≤ RP ∧ W0.heap.size ≤ Rb

section
variable {W0 wr w' : World} {P B M RP Rb n K : Nat} {F F' F2 : Nat → Fr} {h h' h2 : Nat} {g g' : Int → Option Nat}
theorem PlAt.up (k : PlAt W0 P B M RP Rb n K F h g F2 h2 wr) (hb : Below wr.heap.size wr w') : PlAt W0 P B M RP Rb n K F h g F2 h2 w' := by
  obtain ⟨c, p⟩ := k.pool
  exact ⟨⟨c, p.up hb⟩, k.ref.up hb, k.sep, below_upto k.below hb (Nat.le_refl _), k.ge⟩
theorem PlAt.opA {c' : Nat} (k : PlAt W0 P B M RP Rb n K F h g F2 h2 wr) (p : PoolAt w' P B M n F' h' g' c') (ho : Off (PB P B M) wr w') : PlAt W0 P B M RP Rb n K F' h' g' F2 h2 w' :=
  ⟨⟨c', p⟩, k.ref.off ho (fun e => k.sep _ e (.inl rfl)) (fun e => k.sep _ e (.inr rfl)), k.sep, below_off k.below ho k.ge.1 k.ge.2.1 k.ge.2.2.1, k.ge⟩
theorem PlAt.opB (k : PlAt W0 P B M RP Rb n K F h g F2 h2 wr) (p : RefAt w' RP Rb n K F' h') (ho : Off (RB RP Rb) wr w') : PlAt W0 P B M RP Rb n K F h g F' h' w' := by
  obtain ⟨c, q⟩ := k.pool
  refine ⟨⟨c, q.off ho (k.sep _ (.inl rfl)) (k.sep _ (.inr (.inl rfl))) (k.sep _ (.inr (.inr rfl)))⟩, p, k.sep, k.below.trans (ho.below (fun i hi => ?_) k.below.size), k.ge⟩
  rcases hi with rfl | rfl
  · exact k.ge.2.2.2.1
  · exact k.ge.2.2.2.2
theorem PlAt.fresh (k : PlAt W0 P B M RP Rb n K F h g F2 h2 wr) : ¬ PB P B M wr.heap.size ∧ ¬ RB RP Rb wr.heap.size := by
  obtain ⟨c, p⟩ := k.pool
  have k1 := p.ltP
  have k2 := p.ltB
  have k3 := p.ltM
  have k4 := k.ref.ltP
  have k5 := k.ref.ltB
  unfold PB RB
  omega
end

/-- The state between two acts. -/
def JSt (W0 : World) (P B M RP Rb n K : Nat) (wr : World) : Prop := ∃ F h g, KInv n F g ∧ PlAt W0 P B M RP Rb n K F h g F h wr

theorem KInv.congr {n : Nat} {F F' : Nat → Fr} {g g' : Int → Option Nat} (I : KInv n F g) (hF : ∀ j, j < n → F' j = F j) (hg : ∀ k, g' k = g k) : KInv n F' g' := by
  obtain rfl : g' = g := funext hg
  exact ⟨I.good.same fun j hj => by rw [hF j hj]; exact ⟨rfl, rfl⟩, fun j hj => by rw [hF j hj]; exact I.pins j hj⟩
theorem take_inv {n h : Nat} {F : Nat → Fr} {g : Int → Option Nat} {key : Int} (I : KInv n F g) (hh : h < n) : KInv n (takeR n F h g key).F (takeR n F h g key).g := by
  rcases kt (key := key) I hh with ⟨hg, ht⟩ | ⟨r, hg, hj, hno, ht, hI', hc'⟩ | ⟨hg, ht⟩ | ⟨r, out, F', h', hg, hr, ho, hp, hu, hf, _, hno, ht, hI', hc'⟩
  · exact I.congr ht.F ht.g
  · exact hI'.congr ht.F ht.g
  · exact I.congr ht.F ht.g
  · exact hI'.congr ht.F ht.g

/-- One act, on both. -/
def POp (n K : Nat) (F : Nat → Fr) (h : Nat) (g : Int → Option Nat) (P B M RP Rb : Nat) (fn rfn : FuncId) (args : List Value) : Prop :=
  ∃ e0 F' g', KInv n F' g' ∧ (∀ w c, PoolAt w P B M n F h g c → Calls Try.prog fn (.pointer (some ⟨P, 0, none⟩) :: args).toArray w (OpPost P B M n e0 F' h g' w)) ∧
    ∀ w, RefAt w RP Rb n K F h → Calls Try.prog rfn (.pointer (some ⟨RP, 0, none⟩) :: args).toArray w (ROpPost RP Rb n K e0 F' h w)

section
variable {P B M RP Rb n K : Nat} {F : Nat → Fr} {h : Nat} {g : Int → Option Nat}
theorem touch_p (I : KInv n F g) (f : Int) (write : Bool) : POp n K F h g P B M RP Rb 10 29 [.int .i64 f, .bool write] := by
  rcases frame_kind n F f with hf | ⟨j, rfl, hj, hu⟩
  · exact ⟨2, F, g, I, fun w c p => Touch_no p f write hf, fun w p => RTouch_no p f write hf⟩
  · obtain ⟨k1, k2⟩ := I.alike (f := { F j with ref := true, dirty := (F j).dirty || write }) hj rfl rfl (I.pins j hj)
    exact ⟨0, _, g, k1, fun w c p => Touch_yes p j write hj hu, fun w p => RTouch_yes p j write hj hu⟩
theorem clean_p (I : KInv n F g) (f : Int) : POp n K F h g P B M RP Rb 30 31 [.int .i64 f] := by
  rcases frame_kind n F f with hf | ⟨j, rfl, hj, hu⟩
  · exact ⟨2, F, g, I, fun w c p => Clean_no p f hf, fun w p => RClean_no p f hf⟩
  · obtain ⟨k1, k2⟩ := I.alike (f := { F j with dirty := false }) hj rfl rfl (I.pins j hj)
    exact ⟨0, _, g, k1, fun w c p => Clean_yes p j hj hu, fun w p => RClean_yes p j hj hu⟩
theorem pin_p (I : KInv n F g) (f : Int) : POp n K F h g P B M RP Rb 12 32 [.int .i64 f] := by
  rcases frame_kind n F f with hf | ⟨j, rfl, hj, hu⟩
  · exact ⟨2, F, g, I, fun w c p => Pin_no p f hf, fun w p => RPin_no p f hf⟩
  · have hp := I.pins j hj
    by_cases h1 : (F j).pins < 1048576
    · obtain ⟨k1, k2⟩ := I.alike (f := { F j with pins := (F j).pins + 1 }) hj rfl rfl ⟨by show 0 ≤ (F j).pins + 1; omega, by show (F j).pins + 1 ≤ 1048576; omega⟩
      exact ⟨0, _, g, k1, fun w c p => Pin_yes p j hj hu hp.1 h1, fun w p => RPin_yes p j hj hu hp.1 h1⟩
    · exact ⟨_, F, g, I, fun w c p => Pin_full p j hj hu (by omega), fun w p => RPin_full p j hj hu (by omega)⟩
theorem unpin_p (I : KInv n F g) (f : Int) : POp n K F h g P B M RP Rb 16 33 [.int .i64 f] := by
  rcases frame_kind n F f with hf | ⟨j, rfl, hj, hu⟩
  · exact ⟨2, F, g, I, fun w c p => Unpin_no p f hf, fun w p => RUnpin_no p f hf⟩
  · have hp := I.pins j hj
    by_cases h1 : 0 < (F j).pins
    · obtain ⟨k1, k2⟩ := I.alike (f := { F j with pins := (F j).pins - 1 }) hj rfl rfl ⟨by show 0 ≤ (F j).pins - 1; omega, by show (F j).pins - 1 ≤ 1048576; omega⟩
      exact ⟨0, _, g, k1, fun w c p => Unpin_yes p j hj hu h1 hp.2, fun w p => RUnpin_yes p j hj hu h1 hp.2⟩
    · exact ⟨9, F, g, I, fun w c p => Unpin_not p j hj hu (by omega), fun w p => RUnpin_not p j hj hu (by omega)⟩
theorem drop_p (I : KInv n F g) (f : Int) : POp n K F h g P B M RP Rb 15 34 [.int .i64 f] := by
  rcases frame_kind n F f with hf | ⟨j, rfl, hj, hu⟩
  · exact ⟨2, F, g, I, fun w c p => Drop_no p f hf, fun w p => RDrop_no p f hf⟩
  · by_cases h1 : 0 < (F j).pins
    · exact ⟨9, F, g, I, fun w c p => Drop_not p j hj hu h1, fun w p => RDrop_not p j hj hu h1⟩
    · refine ⟨0, putF F j Fr.zero, upd g (F j).key none, ⟨I.good.drop hj hu, fun i hi => ?_⟩, fun w c p => Drop_yes p j hj hu h1, fun w p => RDrop_yes p j hj hu h1⟩
      unfold putF
      split
      · simp [Fr.zero]
      · exact I.pins i hi
/-- At: both tell the same. -/
theorem at_p (f : Int) : ∃ x e0, (∀ w c, PoolAt w P B M n F h g c → Calls Try.prog 14 #[.pointer (some ⟨P, 0, none⟩), .int .i64 f] w (AtPost x e0 w)) ∧ ∀ w, RefAt w RP Rb n K F h → Calls Try.prog 35 #[.pointer (some ⟨RP, 0, none⟩), .int .i64 f] w (AtPost x e0 w) := by
  by_cases h0 : f < 0
  · exact ⟨_, _, fun w c p => At_no p f (.inl h0), fun w p => RAt_no p f (.inl h0)⟩
  by_cases h1 : (n : Int) ≤ f
  · exact ⟨_, _, fun w c p => At_no p f (.inr h1), fun w p => RAt_no p f (.inr h1)⟩
  obtain ⟨j, rfl⟩ := Int.eq_ofNat_of_zero_le (show 0 ≤ f by omega)
  exact ⟨_, _, fun w c p => At_yes p j (by omega), fun w p => RAt_yes p j (by omega)⟩
end
end Go.Proofs.Ytalnlkcmkchjdaa
