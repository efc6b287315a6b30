/- The laws' put, when nothing is put. The laws' world: appends to its lists. The laws' same: all blobs are told. -/
import Derived.Test.YtlmgihnnphmmhaaML
import Derived.Deep.RegionLaw
namespace Go.Proofs.Ytlmgihnnphmmhaa
open Go.RowKit
set_option linter.unusedVariables false
set_option linter.unusedSimpArgs false

open Classical in
theorem fst_cases (t : TbS) : Fst t none ∨ ∃ k, Fst t (some k) := by
  by_cases h : ∃ k, k < t.n ∧ t.st k = 0
  · right
    have h2 : ∃ k, (k < t.n ∧ t.st k = 0) ∧ ∀ j, j < k → ¬ (j < t.n ∧ t.st j = 0) := by
      obtain ⟨k, hk⟩ := h
      induction k using Nat.strongRecOn with
      | _ k ih =>
        by_cases hm : ∃ j, j < k ∧ (j < t.n ∧ t.st j = 0)
        · obtain ⟨j, hj, hj2⟩ := hm
          exact ih j hj hj2
        · exact ⟨k, hk, fun j hj e => hm ⟨j, hj, e⟩⟩
    obtain ⟨k, hk, hl⟩ := h2
    exact ⟨k, hk.1, hk.2, fun j hj e => hl j hj ⟨Nat.lt_trans hj hk.1, e⟩⟩
  · left
    intro j hj e
    exact h ⟨j, hj, e⟩
theorem room_cases (s : StS) (n : Nat) : NoRoom s n ∨ ∃ k u, Room s n k u := by
  by_cases h : ∃ k0, s.op = some k0 ∧ s.us + n ≤ s.c.seg
  · obtain ⟨k0, h1, h2⟩ := h
    exact .inr ⟨k0, s.us, .inl ⟨h1, h2, rfl⟩⟩
  · have h' : ∀ k0, s.op = some k0 → ¬ s.us + n ≤ s.c.seg := fun k0 h1 h2 => h ⟨k0, h1, h2⟩
    rcases fst_cases s.t with h3 | ⟨k, h3⟩
    · exact .inl ⟨h', h3⟩
    · exact .inr ⟨k, 0, .inr ⟨h', h3, rfl⟩⟩
/-- What put leaves. -/
def PuPost [Inhabited KSt] (f : Nat → Bool) (w0 : World) (Wb : Nat) (x : WoS) (b : BArg) (e : Ending) (w' : World) : Prop :=
  e = .returned (.bool true) ∧ ∃ x', WoAt f w0 w' Wb x' ∧ x'.s.c = x.s.c ∧ x'.s.d.pend.length ≤ x.s.d.pend.length + 4096 ∧
    (x' = x ∨ ∃ k u, Room x.s (secs x.s.c.z (putF b.L).length) k u ∧ secs x.s.c.z (putF b.L).length ≤ x.s.c.seg ∧
      x' = ⟨x.s.put (x.s.d.putN (2 + x.s.c.journal + k * x.s.c.seg + u) (padF x.s.c.z (putF b.L)) (secs x.s.c.z (putF b.L).length)) k u (secs x.s.c.z (putF b.L).length), x.ad ++ [(2 + x.s.c.journal + k * x.s.c.seg + u, (putF b.L).length)], x.bl ++ [b]⟩)
theorem left_le {s : StS} (h : StOk s) (ht : s.t.n ≤ 65536) : s.left ≤ 65536 * 4096 + 4096 := by
  have h3 := h.ok.h3
  have h1 := s.t.cnt_le 0 s.t.n
  have h2 : s.t.cnt 0 s.t.n * s.c.seg ≤ 65536 * 4096 := Nat.mul_le_mul (by omega) h3.2
  unfold StS.left
  cases s.op <;> simp only <;> omega
section
variable [Inhabited KSt] {f : Nat → Bool} {w0 w : World} {Wb : Nat} {x : WoS}
set_option maxRecDepth 100000 in
set_option maxHeartbeats 4000000 in
theorem putNo_any (h : WoAt f w0 w Wb x) {b : BArg} (hb : b.In w0) (hn : b.n ≤ 65536) (hno : x.s.c.seg < secs x.s.c.z (putF b.L).length ∨ (secs x.s.c.z (putF b.L).length ≤ x.s.c.seg ∧ NoRoom x.s (secs x.s.c.z (putF b.L).length))) :
    Calls Try.prog 17 #[.pointer (some ⟨Wb, 0, none⟩), b.v] w (PuPost f w0 Wb x b) := by
  obtain ⟨D, P, T, M, O, vA, vL, hm, hi⟩ := h
  have HM := Lib.hid hm
  have HI := Lib.hid hi
  obtain ⟨q0, q1, q2, q3, q4, q5, q6, q7, q8⟩ := hm.bx
  have c10 := hm.c10
  have lW := hm.lts.1
  have hok := hm.st.ok.ok
  have hsg := hok.h3
  have hz := hok.h1
  have hbn := hm.st.tb.bn
  have hll := left_le hm.st.ok hbn
  have HLF : Hid (∀ g : Up w, Calls Try.prog 28 #[.pointer (some ⟨P, 0, none⟩)] g.world fun e w' => e = .returned (.int .i64 (x.s.left : Nat)) ∧ Below g.world.heap.size g.world w') := fun g => stLeft_any (hm.st.up g.h)
  obtain ⟨er, her, HPT⟩ : ∃ er : Nat, (er = 24 ∧ x.s.c.seg * x.s.c.z < b.n + 14 ∨ er = 7 ∧ x.s.left < 2 * x.s.c.seg) ∧ Hid (∀ w1, Below w.heap.size w w1 → Calls Try.prog 13 #[.pointer (some ⟨P, 0, none⟩), .slice b.A b.n b.c] w1 fun e w' => e = .returned (.tuple #[.agg #[.int .i64 0, .int .i64 0], .int .i64 (er : Nat)]) ∧ Below w1.heap.size w1 w') := by
    rcases hno with h1 | ⟨h1, h2⟩
    · refine ⟨24, .inl ⟨rfl, ?_⟩, fun w1 hb1 => stPutLong_any (hm.st.up hb1) ((hb.1.up hm.bel).up hb1) hb.2 hn h1⟩
      have h3 := putF_le b.L
      have h4 := hb.1.len
      refine Nat.lt_of_not_le fun h5 => ?_
      have h6 : secs x.s.c.z (putF b.L).length ≤ x.s.c.seg := secs_le (by omega) (by omega)
      omega
    · exact ⟨7, .inr ⟨rfl, left_none hm.st.ok h2⟩, fun w1 hb1 => stPutSpace_any (hm.st.up hb1) ((hb.1.up hm.bel).up hb1) hb.2 hn h1 h2⟩
  have HPO : Hid (∀ w', Below w.heap.size w w' → PuPost f w0 Wb x b (.returned (.bool true)) w') := fun w' hb' => ⟨rfl, x, ⟨D, P, T, M, O, vA, vL, HM.out.up hb', HI.out⟩, rfl, Nat.le_add_right _ _, .inl rfl⟩
  obtain ⟨sz, hsz⟩ : ∃ sz, sz = x.s.c.seg * x.s.c.z := ⟨_, rfl⟩
  have hszl : sz ≤ 4096 * 4096 := by rw [hsz]; exact Nat.mul_le_mul (by omega) (by omega)
  have e1 : (x.s.c.seg : Int) * (x.s.c.z : Int) = (sz : Int) := by rw [hsz]; simp
  rw [← hsz] at her
  clear hm hi hno hok hz hb hsz hbn
  unfold BArg.v
  go_enter Try.func17, Try.ntmps17
  refine wp_upW (W := w) fun g => ?_
  generalize x.s.left = lf at *
  go_wp2_with fail
  refine calls_upW (HLF.out _) fun g => ?_
  go_wp2_with fail
  refine calls_upW (HPT.out _ g.h) fun g => ?_
  have HB : Hid (∀ o, Below w.heap.size w (g.world.alloc o)) := fun o => g.h.alloc g.h.size o
  have HBd : Hid (∀ o n, Below w.heap.size w ((g.world.alloc o).drewN n)) := fun o n => below_drewN (g.h.alloc g.h.size o) n
  have hsd : w.heap.size ≤ g.world.heap.size := g.h.size
  have v1 : IntKind.i64.wrap (sz : Int) = (sz : Int) := IntWalk.i64_in _ (by omega)
  have v2 : IntKind.i64.wrap ((b.n : Int) + 14) = (b.n : Int) + 14 := IntWalk.i64_in _ (by omega)
  have v3 : IntKind.i64.wrap (2 * (x.s.c.seg : Int)) = 2 * (x.s.c.seg : Int) := IntWalk.i64_in _ (by omega)
  clear HLF HPT
  rcases her with ⟨rfl, h1⟩ | ⟨rfl, h1⟩
  · have i1 : (sz : Int) < (b.n : Int) + 14 := by omega
    go_upto_region 7 with (fail)
    refine wp_forget (fun W => ∃ g : Up w, W = g.world) ⟨⟨_, HB.out _⟩, rfl⟩ ?_
    rintro _ ⟨g, rfl⟩
    refine wp_region_upW (by kernel_rfl) (by kernel_rfl) ?_
    repeat (go_big_quiet_step (fail))
    refine wpQuiet_nil ?_
    rintro _ ⟨g, rfl⟩
    have HP := Lib.hid (HPO.out g.world g.h)
    go_wp2
    go_ret
    exact HP.out
  · have i1 : (lf : Int) < 2 * (x.s.c.seg : Int) := by omega
    go_upto_region 9 with (fail)
    refine wp_forget (fun W => ∃ g : Up w, W = g.world) ⟨⟨_, HB.out _⟩, rfl⟩ ?_
    rintro _ ⟨g, rfl⟩
    have HP := Lib.hid (HPO.out g.world g.h)
    go_wp2
    go_ret
    exact HP.out
end
end Go.Proofs.Ytlmgihnnphmmhaa
namespace Go.Proofs.Ytlmgihnnphmmhaa
open Go.RowKit
set_option linter.unusedVariables false
set_option linter.unusedSimpArgs false

theorem addr_info : (Try.prog.info? 30).map (fun i => (i.zero, i.size, i.bytes)) = some (some (.agg #[.int .i64 0, .int .i64 0]), 2, 16) := by kernel_rfl
/-- append of one address. -/
theorem run_appA {B : Nat} {w : World} {v : Value} {l : List (Nat × Nat)} {g a N : Nat} (hown : w.ownsRow B 30 2 v l.length (adCells l)) (hc : w.cell? ⟨g, 0, none⟩ = some (.int .i64 (a : Nat))) (hc1 : w.cell? ⟨g, 1, none⟩ = some (.int .i64 (N : Nat))) (hB : B ≤ w.heap.size) (hlen : l.length ≤ 1048576) (ty : TypeId) :
    ∃ v' w', (Builtin.append_ #[35, 35] ty #[v, .slice (some ⟨g, 0, none⟩) 1 1]).run Try.prog w = .ok v' w' ∧ w'.ownsRow B 30 2 v' (l ++ [(a, N)]).length (adCells (l ++ [(a, N)])) ∧ w.grownBy w' v.ownBlock ∧ (v'.ownBlock = v.ownBlock ∨ v'.ownBlock = some w.heap.size) := by
  obtain ⟨i0, hi, hz0, hz1, hz2⟩ := info_parts addr_info
  obtain ⟨v', w', hr, ho, hg, _, hat⟩ := run_append_own_at (P := Try.prog) w B 35 ty 30 i0 _ 2 16 Try.underlying35 hi hz0 hz1 hz2 rfl (by omega) v l.length (adCells l) hown ⟨g, 0, none⟩ 1 1 [.int .i64 (a : Nat), .int .i64 (N : Nat)]
    rfl (fun j u hj => by
      have e : ∀ j, (⟨g, 0, none⟩ : Addr).add j = ⟨g, j, none⟩ := fun j => by unfold Addr.add; split <;> simp_all
      rw [e]
      match j, hj with
      | 0, hj => simp at hj; rw [hc, hj]
      | 1, hj => simp at hj; rw [hc1, hj]) (fun u hu => by
      simp only [List.mem_cons, List.mem_singleton, List.not_mem_nil, or_false] at hu
      rcases hu with rfl | rfl <;> simp [Value.oneCell']) (by unfold maxLen; omega) (by omega) hB
  refine ⟨v', w', hr, ?_, hg, hat⟩
  rw [List.length_append, adCells_app]
  exact ho
theorem step_appA {ops : Array Oper} {o : Oper} {a : Act} {w : World} {K : Act → World → Prop} {Q : Exit → Act → World → Prop} {E : Prop} (hgd : o.guard = none) (sl x : Operand)
    (ho : o.op = .call { callee := .builtin .append, args := #[sl, x], argTypes := #[35, 35] }) (B : Nat) (v : Value) (l : List (Nat × Nat)) (g s N : Nat) (hs : a.eval sl = v) (hown : w.ownsRow B 30 2 v l.length (adCells l)) (hx : a.eval x = .slice (some ⟨g, 0, none⟩) 1 1)
    (hc : w.cell? ⟨g, 0, none⟩ = some (.int .i64 (s : Nat))) (hc1 : w.cell? ⟨g, 1, none⟩ = some (.int .i64 (N : Nat))) (hB : B ≤ w.heap.size) (hlen : l.length ≤ 1048576)
    (h : ∀ v' w', w'.ownsRow B 30 2 v' (l ++ [(s, N)]).length (adCells (l ++ [(s, N)])) → w.grownBy w' v.ownBlock → (v'.ownBlock = v.ownBlock ∨ v'.ownBlock = some w.heap.size) → (∃ A2 n2 c2, v' = .slice A2 n2 c2) → K (a.put o.dst v') w') :
    if Region.wanted o (yielded ops a.tmps) = true then Oper.wp Try.prog o a w K Q else E := by
  have hw : Region.wanted o (yielded ops a.tmps) = true := by simp [Region.wanted, hgd]
  rw [if_pos hw]
  obtain ⟨v', w', hr, h1, h2, h3⟩ := run_appA hown hc hc1 hB hlen o.type
  unfold Oper.wp execOp
  simp only [ho, resolve, invoke, builtin, Sem.run_bind, Sem.run_pure, Result.andThen_ok, List.map_toArray, List.map_cons, List.map_nil, hs, hx, hr]
  refine h v' w' h1 h2 h3 ?_
  rcases h1.2 with ⟨rfl, _⟩ | ⟨g, cap, cur, rfl, _⟩
  · exact ⟨_, _, _, rfl⟩
  · exact ⟨_, _, _, rfl⟩
theorem slice_info' : (Try.prog.info? 28).map (fun i => (i.zero, i.size, i.bytes)) = some (some (.slice none 0 0), 1, 24) := by kernel_rfl
/-- append of one blob, in a plain region. -/
theorem run_appL {B : Nat} {w : World} {v : Value} {l : List BArg} {b : BArg} {g : Nat} (hown : w.ownsRow B 28 1 v l.length (l.map BArg.v)) (hc : w.cell? ⟨g, 0, none⟩ = some b.v) (hB : B ≤ w.heap.size) (hlen : l.length ≤ 1048576) (ty : TypeId) :
    ∃ v' w', (Builtin.append_ #[36, 36] ty #[v, .slice (some ⟨g, 0, none⟩) 1 1]).run Try.prog w = .ok v' w' ∧ w'.ownsRow B 28 1 v' (l ++ [b]).length ((l ++ [b]).map BArg.v) ∧ w.grownBy w' v.ownBlock ∧ (v'.ownBlock = v.ownBlock ∨ v'.ownBlock = some w.heap.size) := by
  obtain ⟨i0, hi, hz0, hz1, hz2⟩ := info_parts slice_info'
  obtain ⟨v', w', hr, ho, hg, _, hat⟩ := run_append_own_at (P := Try.prog) w B 36 ty 28 i0 _ 1 24 Try.underlying36 hi hz0 hz1 hz2 rfl (by omega) v l.length (l.map BArg.v) hown ⟨g, 0, none⟩ 1 1 [b.v]
    rfl (fun j u hj => by
      have e : ∀ j, (⟨g, 0, none⟩ : Addr).add j = ⟨g, j, none⟩ := fun j => by unfold Addr.add; split <;> simp_all
      rw [e]
      match j, hj with
      | 0, hj => simp at hj; rw [hc, hj]) (fun u hu => by
      simp only [List.mem_singleton] at hu
      subst hu
      simp [BArg.v, Value.oneCell']) (by unfold maxLen; omega) (by omega) hB
  refine ⟨v', w', hr, ?_, hg, hat⟩
  rw [List.length_append, List.map_append]
  exact ho
theorem wpList_appL {ops : Array Oper} {rest : List Oper} {o : Oper} {a : Act} {w : World} {Q : Exit → Act → World → Prop} (hgd : o.guard = none) (sl x : Operand)
    (ho : o.op = .call { callee := .builtin .append, args := #[sl, x], argTypes := #[36, 36] }) (B : Nat) (v : Value) (l : List BArg) (b : BArg) (g : Nat) (hs : a.eval sl = v) (hown : w.ownsRow B 28 1 v l.length (l.map BArg.v)) (hx : a.eval x = .slice (some ⟨g, 0, none⟩) 1 1)
    (hc : w.cell? ⟨g, 0, none⟩ = some b.v) (hB : B ≤ w.heap.size) (hlen : l.length ≤ 1048576)
    (h : ∀ v' w', w'.ownsRow B 28 1 v' (l ++ [b]).length ((l ++ [b]).map BArg.v) → w.grownBy w' v.ownBlock → (v'.ownBlock = v.ownBlock ∨ v'.ownBlock = some w.heap.size) → (∃ A2 n2 c2, v' = .slice A2 n2 c2) → wpList Try.prog ops Q rest (a.put o.dst v') w') : wpList Try.prog ops Q (o :: rest) a w := by
  obtain ⟨v', w', hr, h1, h2, h3⟩ := run_appL hown hc hB hlen o.type
  refine wpList_plain hgd fun K hK => ?_
  unfold Oper.wp execOp
  simp only [ho, resolve, invoke, builtin, Sem.run_bind, Sem.run_pure, Result.andThen_ok, List.map_toArray, List.map_cons, List.map_nil, hs, hx, hr]
  refine hK _ _ (h v' w' h1 h2 h3 ?_)
  rcases h1.2 with ⟨rfl, _⟩ | ⟨g, cap, cur, rfl, _⟩
  · exact ⟨_, _, _, rfl⟩
  · exact ⟨_, _, _, rfl⟩
section
variable [Inhabited KSt] {w0 w w' W V V5 : World} {Wb D P T M : Nat} {O O' S : Nat → Prop} {vA vL v' : Value} {x : WoS}
/-- Behind a Put. -/
theorem WoM.putted (h : WoM w0 V Wb D P T M O vA vL x) {s' : StS} (hc : s'.c = x.s.c) (hst : StAt w0.heap.size W P D T M O' s') (ho' : ∀ g, O' g → O g ∨ V.heap.size ≤ g) (ho : Off (fun g => g = P ∨ g = M ∨ O g) V W) :
    WoM w0 W Wb D P T M O' vA vL ⟨s', x.ad, x.bl⟩ := by
  obtain ⟨l1, l2, l3⟩ := h.lts
  obtain ⟨d1, d2, d3, d4⟩ := h.dW
  have nW : ¬ (Wb = P ∨ Wb = M ∨ O Wb) := fun e => by
    rcases e with e | e | e
    · exact d2 e
    · exact d4 e
    · exact d1 e
  have c : ∀ j, W.cell? ⟨Wb, j, none⟩ = V.cell? ⟨Wb, j, none⟩ := fun j => ho.cell (p := ⟨Wb, j, none⟩) l1 nW
  have hO : ∀ g, g < V.heap.size → ¬ O g → ¬ O' g := fun g hg hn e => by
    rcases ho' g e with h1 | h1
    · exact hn h1
    · omega
  have nA : ∀ g, vA.ownBlock = some g → ¬ (g = P ∨ g = M ∨ O g) := fun g hg e => by
    obtain ⟨e1, e2, e3, e4, e5⟩ := h.dA g hg
    rcases e with e | e | e
    · exact e2 e
    · exact e4 e
    · exact e1 e
  have nL : ∀ g, vL.ownBlock = some g → ¬ (g = P ∨ g = M ∨ O g) := fun g hg e => by
    obtain ⟨e1, e2, e3, e4, e5⟩ := h.dL g hg
    rcases e with e | e | e
    · exact e2 e
    · exact e4 e
    · exact e1 e
  refine ⟨?_, (c 9).trans h.c9, (c 10).trans h.c10, (c 11).trans h.c11, (c 12).trans h.c12, fun j => (ho.frozen (p := ⟨Wb, j, none⟩) l1 nW).trans (h.zf j), hst, ownsRow_off h.rA ho nA, ownsRow_off h.rL ho nL, h.bin, ?_, h.lo, ⟨hO _ l1 d1, d2, d3, d4⟩, fun g hg => ?_, fun g hg => ?_, h.dAL, fun g hg => ?_⟩
  · show BoxC W Wb s'.c
    rw [hc]
    exact h.bx.up c
  · refine h.bel.trans (ho.below (fun k hk => ?_) h.bel.size)
    rcases hk with e | e | e
    · rw [e]; exact h.st.lo
    · rw [e]; exact h.st.tb.lo.2
    · exact (h.st.lts.2.2.2 k e).1
  · obtain ⟨e1, e2, e3, e4, e5⟩ := h.dA g hg
    exact ⟨hO g (l2 g hg).2 e1, e2, e3, e4, e5⟩
  · obtain ⟨e1, e2, e3, e4, e5⟩ := h.dL g hg
    exact ⟨hO g (l3 g hg).2 e1, e2, e3, e4, e5⟩
  · obtain ⟨k1, k2, k3, k4, k5, k6⟩ := h.kp g hg
    refine ⟨h.kpo ho (fun g hg e => ?_) g hg, hO g ?_ k2, k3, k4, k5, k6⟩
    · obtain ⟨k1, k2, k3, k4, k5, k6⟩ := h.kp g hg
      rcases e with e | e | e
      · exact k3 e
      · exact k5 e
      · exact k2 e
    · rcases Nat.lt_or_ge g V.heap.size with h2 | h2
      · exact h2
      · rw [Array.getElem?_eq_none h2] at k1; exact absurd k1.symm hg
/-- One of the two lists has grown: what has become of the rest. -/
theorem WoM.grown (h : WoM w0 V Wb D P T M O vA vL x) {v : Value} {j : Nat} {q : Option Nat} (hv : v.ownBlock = q) (hg : V.grownBy V5 q) (hd : ∀ g, q = some g → ¬ O g ∧ g ≠ P ∧ g ≠ T ∧ g ≠ M ∧ g ≠ Wb) :
    Off (fun g => q = some g ∨ g = Wb) V (V5.setCell ⟨Wb, j, none⟩ v') ∧ StAt w0.heap.size (V5.setCell ⟨Wb, j, none⟩ v') P D T M O x.s ∧ (∀ i, i ≠ j → (V5.setCell ⟨Wb, j, none⟩ v').cell? ⟨Wb, i, none⟩ = V.cell? ⟨Wb, i, none⟩) ∧ (∀ i, (V5.setCell ⟨Wb, j, none⟩ v').frozen? ⟨Wb, i, none⟩ = V.frozen? ⟨Wb, i, none⟩) ∧
      (∀ u, V.cell? ⟨Wb, j, none⟩ = some u → (V5.setCell ⟨Wb, j, none⟩ v').cell? ⟨Wb, j, none⟩ = some v') := by
  obtain ⟨l1, l2, l3⟩ := h.lts
  obtain ⟨d1, d2, d3, d4⟩ := h.dW
  have ho := grown_off hg
  have nW : ¬ q = some Wb := fun e => (hd Wb e).2.2.2.2 rfl
  have ho2 : Off (fun g => q = some g ∨ g = Wb) V (V5.setCell ⟨Wb, j, none⟩ v') := (ho.mono fun g e => .inl e).setCell (p := ⟨Wb, j, none⟩) (.inr rfl) _
  have c5 : ∀ i, V5.cell? ⟨Wb, i, none⟩ = V.cell? ⟨Wb, i, none⟩ := fun i => ho.cell (p := ⟨Wb, i, none⟩) l1 nW
  refine ⟨ho2, h.st.off ho2 (fun e => ?_) (fun e => ?_) (fun e => ?_) (fun g hg e => ?_), fun i hi => ?_, fun i => ?_, fun u hu => World.cell?_setCell_same _ _ _ ((c5 j).trans hu)⟩
  · rcases e with e | e
    · exact (hd P e).2.1 rfl
    · exact d2 e.symm
  · rcases e with e | e
    · exact (hd T e).2.2.1 rfl
    · exact d3 e.symm
  · rcases e with e | e
    · exact (hd M e).2.2.2.1 rfl
    · exact d4 e.symm
  · rcases e with e | e
    · exact (hd g e).1 hg
    · exact d1 (e ▸ hg)
  · exact (World.cell?_setCell_other _ _ _ _ (fun e => hi (by injection e with e1 e2; exact e2.symm))).trans (c5 i)
  · rw [World.frozen?_setCell]
    exact ho.frozen (p := ⟨Wb, i, none⟩) l1 nW
theorem WoM.appA (h : WoM w0 V Wb D P T M O vA vL x) {p : Nat × Nat} (row : V5.ownsRow w0.heap.size 30 2 v' (x.ad ++ [p]).length (adCells (x.ad ++ [p]))) (hg : V.grownBy V5 vA.ownBlock) (hat : v'.ownBlock = vA.ownBlock ∨ v'.ownBlock = some V.heap.size) :
    WoM w0 (V5.setCell ⟨Wb, 11, none⟩ v') Wb D P T M O v' vL ⟨x.s, x.ad ++ [p], x.bl⟩ ∧ Off (fun g => vA.ownBlock = some g ∨ g = Wb) V (V5.setCell ⟨Wb, 11, none⟩ v') := by
  obtain ⟨l1, l2, l3⟩ := h.lts
  obtain ⟨t1, t2, t3, t4⟩ := h.st.lts
  obtain ⟨g1, g2, g3, g4, g5⟩ := h.grown (v' := v') (v := vA) (j := 11) rfl hg h.dA
  have nv : ∀ g, v'.ownBlock = some g → vA.ownBlock = some g ∨ g = V.heap.size := fun g hg => by
    rcases hat with e | e
    · exact .inl (e ▸ hg)
    · rw [e] at hg; cases hg; exact .inr rfl
  obtain ⟨q0, q1, q2, q3, q4, q5, q6, q7, q8⟩ := h.bx
  refine ⟨⟨⟨(g3 0 (by omega)).trans q0, (g3 1 (by omega)).trans q1, (g3 2 (by omega)).trans q2, (g3 3 (by omega)).trans q3, (g3 4 (by omega)).trans q4, (g3 5 (by omega)).trans q5, (g3 6 (by omega)).trans q6, (g3 7 (by omega)).trans q7, (g3 8 (by omega)).trans q8⟩, (g3 9 (by omega)).trans h.c9, (g3 10 (by omega)).trans h.c10, g5 _ h.c11, (g3 12 (by omega)).trans h.c12, fun i => (g4 i).trans (h.zf i), g2, ?_, ownsRow_off h.rL g1 (fun g hg e => ?_), h.bin, ?_, h.lo, h.dW, fun g hg => ?_, h.dL, fun g hg e => ?_, fun g hg => ?_⟩, g1⟩
  · refine ownsRow_off row (S := fun g => g = Wb) ((Off.refl (fun g => g = Wb) V5).setCell (p := ⟨Wb, 11, none⟩) rfl _) fun g hg e => ?_
    rcases nv g hg with h1 | h1
    · exact (h.dA g h1).2.2.2.2 e
    · omega
  · rcases e with e | e
    · exact h.dAL g e hg
    · exact (h.dL g hg).2.2.2.2 e
  · refine h.bel.trans (g1.below (fun k hk => ?_) h.bel.size)
    rcases hk with e | e
    · exact (l2 k e).1
    · rw [e]; exact h.lo
  · rcases nv g hg with h1 | h1
    · exact h.dA g h1
    · subst h1
      exact ⟨fun e => by have := (t4 _ e).2; omega, by omega, by omega, by omega, by omega⟩
  · rcases nv g hg with h1 | h1
    · exact h.dAL g h1 e
    · have := (l3 g e).2; omega
  · obtain ⟨k1, k2, k3, k4, k5, k6, k7, k8⟩ := h.kp g hg
    refine ⟨h.kpo g1 (fun g hg e => ?_) g hg, k2, k3, k4, k5, k6, fun e => ?_, k8⟩
    · obtain ⟨k1, k2, k3, k4, k5, k6, k7, k8⟩ := h.kp g hg
      rcases e with e | e
      · exact k7 e
      · exact k6 e
    · rcases nv g e with h1 | h1
      · exact k7 h1
      · rw [h1, Array.getElem?_eq_none (Nat.le_refl _)] at k1
        rw [h1] at hg
        exact absurd k1.symm hg
theorem WoM.appL (h : WoM w0 V Wb D P T M O vA vL x) {b : BArg} (hb : b.In w0 ∧ b.L.length ≤ 65536) (row : V5.ownsRow w0.heap.size 28 1 v' (x.bl ++ [b]).length ((x.bl ++ [b]).map BArg.v)) (hg : V.grownBy V5 vL.ownBlock) (hat : v'.ownBlock = vL.ownBlock ∨ v'.ownBlock = some V.heap.size) :
    WoM w0 (V5.setCell ⟨Wb, 12, none⟩ v') Wb D P T M O vA v' ⟨x.s, x.ad, x.bl ++ [b]⟩ ∧ Off (fun g => vL.ownBlock = some g ∨ g = Wb) V (V5.setCell ⟨Wb, 12, none⟩ v') := by
  obtain ⟨l1, l2, l3⟩ := h.lts
  obtain ⟨t1, t2, t3, t4⟩ := h.st.lts
  obtain ⟨g1, g2, g3, g4, g5⟩ := h.grown (v' := v') (v := vL) (j := 12) rfl hg h.dL
  have nv : ∀ g, v'.ownBlock = some g → vL.ownBlock = some g ∨ g = V.heap.size := fun g hg => by
    rcases hat with e | e
    · exact .inl (e ▸ hg)
    · rw [e] at hg; cases hg; exact .inr rfl
  obtain ⟨q0, q1, q2, q3, q4, q5, q6, q7, q8⟩ := h.bx
  refine ⟨⟨⟨(g3 0 (by omega)).trans q0, (g3 1 (by omega)).trans q1, (g3 2 (by omega)).trans q2, (g3 3 (by omega)).trans q3, (g3 4 (by omega)).trans q4, (g3 5 (by omega)).trans q5, (g3 6 (by omega)).trans q6, (g3 7 (by omega)).trans q7, (g3 8 (by omega)).trans q8⟩, (g3 9 (by omega)).trans h.c9, (g3 10 (by omega)).trans h.c10, (g3 11 (by omega)).trans h.c11, g5 _ h.c12, fun i => (g4 i).trans (h.zf i), g2, ownsRow_off h.rA g1 (fun g hg e => ?_), ?_, fun b' hb' => ?_, ?_, h.lo, h.dW, h.dA, fun g hg => ?_, fun g hg e => ?_, fun g hg => ?_⟩, g1⟩
  · rcases e with e | e
    · exact h.dAL g hg e
    · exact (h.dA g hg).2.2.2.2 e
  · refine ownsRow_off row (S := fun g => g = Wb) ((Off.refl (fun g => g = Wb) V5).setCell (p := ⟨Wb, 12, none⟩) rfl _) fun g hg e => ?_
    rcases nv g hg with h1 | h1
    · exact (h.dL g h1).2.2.2.2 e
    · omega
  · rcases List.mem_append.1 hb' with h1 | h1
    · exact h.bin b' h1
    · rw [List.mem_singleton.1 h1]; exact hb
  · refine h.bel.trans (g1.below (fun k hk => ?_) h.bel.size)
    rcases hk with e | e
    · exact (l3 k e).1
    · rw [e]; exact h.lo
  · rcases nv g hg with h1 | h1
    · exact h.dL g h1
    · subst h1
      exact ⟨fun e => by have := (t4 _ e).2; omega, by omega, by omega, by omega, by omega⟩
  · rcases nv g e with h1 | h1
    · exact h.dAL g hg h1
    · have := (l2 g hg).2; omega
  · obtain ⟨k1, k2, k3, k4, k5, k6, k7, k8⟩ := h.kp g hg
    refine ⟨h.kpo g1 (fun g hg e => ?_) g hg, k2, k3, k4, k5, k6, k7, fun e => ?_⟩
    · obtain ⟨k1, k2, k3, k4, k5, k6, k7, k8⟩ := h.kp g hg
      rcases e with e | e
      · exact k8 e
      · exact k6 e
    · rcases nv g e with h1 | h1
      · exact k8 h1
      · rw [h1, Array.getElem?_eq_none (Nat.le_refl _)] at k1
        rw [h1] at hg
        exact absurd k1.symm hg
end
end Go.Proofs.Ytlmgihnnphmmhaa
namespace Go.Proofs.Ytlmgihnnphmmhaa
open Go.RowKit
set_option linter.unusedVariables false
set_option linter.unusedSimpArgs false

theorem addr_plain' (G i : Nat) : (⟨G, 0, none⟩ : Addr).add i = ⟨G, i, none⟩ := by unfold Addr.add; split <;> simp_all
/-- Every blob is told by Get. -/
def AllTold (x : WoS) : Prop := ∀ (i a N : Nat) (b : BArg), x.ad[i]? = some (a, N) → x.bl[i]? = some b → (∃ k, RightN x.s.c a N k) ∧ x.s.d.getB a N = (b.L, 0)
theorem WoInv.told {f : Nat → Bool} {x : WoS} (h : WoInv f x) (hs : StOk x.s) (hb : ∀ b ∈ x.bl, b.L.length ≤ 65536) : AllTold x := fun i a N b h1 h2 => by
  obtain ⟨k, hp⟩ := h.pl i a N b h1 h2
  exact ⟨⟨k, hp.r⟩, hp.get hs (hb b (List.mem_of_getElem? h2))⟩
section
variable [Inhabited KSt] {f : Nat → Bool} {w0 w : World} {Wb : Nat} {x : WoS}
theorem WoM.read {w' : World} {D P T M : Nat} {O : Nat → Prop} {vA vL : Value} (h : WoM w0 w Wb D P T M O vA vL x) (hst : StAt w0.heap.size w' P D T M O x.s) (ho : Off O w w') : WoM w0 w' Wb D P T M O vA vL x :=
  h.putted rfl hst (fun g => .inl) (ho.mono fun g e => .inr (.inr e))
set_option maxRecDepth 100000 in
set_option maxHeartbeats 4000000 in
theorem same9_any {D P T M : Nat} {O : Nat → Prop} {vA vL : Value} (hm : WoM w0 w Wb D P T M O vA vL x) (hlen : x.ad.length = x.bl.length) (ht : AllTold x) (hof : x.s.d.off = false) (had : x.ad.length ≤ 100000) :
    Calls Try.prog 21 #[.pointer (some ⟨Wb, 0, none⟩)] w fun e w' => e = .returned (.bool true) ∧ WoM w0 w' Wb D P T M O vA vL x := by
  have HM := Lib.hid hm
  have HT := Lib.hid ht
  have HOF := Lib.hid hof
  have HLN := Lib.hid hlen
  clear hm hlen ht hof
  go_enter Try.func21, Try.ntmps21
  go_wp2_with fail
  go_loopw [3] (fun i wr => ∃ j : Nat, j ≤ x.ad.length ∧ i = .int .i64 (j : Nat) ∧ WoM w0 wr Wb D P T M O vA vL x) (fun i _ => x.ad.length - (intOf i).toNat)
  case atStart => exact ⟨0, Nat.zero_le _, rfl, HM.out⟩
  case round =>
    obtain ⟨j, hj, rfl, hmr⟩ := hrel
    clear HM
    have HM := Lib.hid hmr
    have lW := hmr.lts.1
    obtain ⟨Aa, ca, hva⟩ : ∃ Aa ca, vA = .slice Aa x.ad.length ca := by
      rcases hmr.rA.2 with ⟨hh, h0⟩ | ⟨g, cap, cur, hh, _⟩
      · exact ⟨_, _, by rw [hh, h0]⟩
      · exact ⟨_, _, hh⟩
    have c11 : wr.cell? ⟨Wb, 11, none⟩ = some (.slice Aa x.ad.length ca) := by rw [hmr.c11, hva]
    have c10 := hmr.c10
    by_cases hlt : j < x.ad.length
    · obtain ⟨⟨a, N⟩, hp⟩ : ∃ p, x.ad[j]? = some p := ⟨_, List.getElem?_eq_getElem hlt⟩
      have hlt2 : j < x.bl.length := by rw [← HLN.out]; exact hlt
      obtain ⟨b, hbj⟩ : ∃ b, x.bl[j]? = some b := ⟨_, List.getElem?_eq_getElem hlt2⟩
      obtain ⟨⟨k, hrn⟩, hget⟩ := HT.out j a N b hp hbj
      obtain ⟨G, cap, hG, hcap, _⟩ := World.ownsRow.form hmr.rA (show 0 < x.ad.length by omega)
      have k0 := World.ownsRow.cells hmr.rA (g := G) (by rw [hG]; rfl) (j * 2) _ (adCells_at _ j _ hp).1
      have k1 := World.ownsRow.cells hmr.rA (g := G) (by rw [hG]; rfl) (j * 2 + 1) _ (adCells_at _ j _ hp).2
      have lG := (hmr.lts.2.1 G (by rw [hG]; rfl)).2
      rw [addr_plain'] at k0 k1
      rw [hva] at hG
      injection hG with e1 e2 e3
      subst e1
      have HRN := Lib.hid hrn
      have HGT := Lib.hid hget
      have HVA := Lib.hid hva
      have HBJ := Lib.hid hbj
      have u0 : (j : Int) < (x.ad.length : Int) := by omega
      clear hmr hva hp hbj hrn hget hcap e2 e3
      go_upto_region 4 with (fail)
      refine wp_region_up_tail 11 (by kernel_rfl) (by kernel_rfl) (by kernel_rfl) ?_
      simp only [List.take_succ_cons, List.take_zero, List.drop_succ_cons, List.drop_zero]
      repeat (go_big_quiet_step (fail))
      refine wpQuiet_nil ?_
      rintro _ ⟨g, rfl⟩
      have HMG : Hid (WoM w0 g.world Wb D P T M O vA vL x) := HM.out.up g.h
      have HGE : Hid (Calls Try.prog 14 #[.pointer (some ⟨P, 0, none⟩), addrV a N] g.world (GtPost w0.heap.size g.world P D T M O x.s (b.L, 0))) := by rw [← HGT.out]; exact stGet_any HMG.out.st HRN.out HOF.out
      unfold addrV at HGE
      go_wp2_with fail
      refine HGE.out.mono ?_
      rintro _ w2 ⟨A', n', c', rfl, ⟨w1, hF, _⟩, hst, hoff⟩
      simp only at hF ⊢
      have hm2 := HMG.out.read hst hoff
      have HM2 := Lib.hid hm2
      have HS2 : Hid (SBy w2 A' n' b.L) := hF.sby
      clear hst hoff hF HGE HMG c10 c11 k0 k1 lG
      obtain ⟨AL, cL, hvl⟩ : ∃ AL cL, vL = .slice AL x.bl.length cL := by
        rcases hm2.rL.2 with ⟨hh, h0⟩ | ⟨g, cap, cur, hh, _⟩
        · exact ⟨_, _, by rw [hh, h0]⟩
        · exact ⟨_, _, hh⟩
      have c12 : w2.cell? ⟨Wb, 12, none⟩ = some (.slice AL x.bl.length cL) := by rw [hm2.c12, hvl]
      obtain ⟨G2, cap, hG, hcap, _⟩ := World.ownsRow.form hm2.rL (show 0 < x.bl.length by omega)
      have k2 := World.ownsRow.cells hm2.rL (g := G2) (by rw [hG]; rfl) (j * 1) b.v (by rw [Nat.mul_one, List.getElem?_map, HBJ.out]; rfl)
      have lG := (hm2.lts.2.2 G2 (by rw [hG]; rfl)).2
      rw [addr_plain', Nat.mul_one] at k2
      rw [hvl] at hG
      injection hG with e1 e2 e3
      subst e1
      have lW2 := hm2.lts.1
      have hbi := (hm2.bin b (List.mem_of_getElem? HBJ.out)).1
      have HCV1 : Hid (∀ g : Up w2, (convert 28 9 (.slice A' n' c')).run Try.prog g.world = .ok (.string (strB b.L)) g.world) := fun g => (HS2.out.up g.h).str c'
      have HCV2 : Hid (∀ g : Up w2, (convert 28 9 (.slice b.A b.n b.c)).run Try.prog g.world = .ok (.string (strB b.L)) g.world) := fun g => ((hbi.1.up hm2.bel).up g.h).str b.c
      have u1 : (j : Int) < (x.bl.length : Int) := by omega
      unfold BArg.v at k2
      clear hm2 hvl hcap e2 e3 hbi
      go_upto_region 5 with (fail)
      have cv1 := HCV1.out
      have cv2 := HCV2.out
      refine wp_region_up (by kernel_rfl) (by kernel_rfl) ?_
      repeat (go_big_quiet_step (fail))
      refine wpQuiet_nil ?_
      rintro _ ⟨g, rfl⟩
      have HMF : Hid (WoM w0 g.world Wb D P T M O vA vL x) := HM2.out.up g.h
      clear cv1 cv2 HCV1 HCV2
      go_wp2
      go_roundw
      case rel => exact ⟨j + 1, by omega, by go_num, HMF.out⟩
      case measure => simp [intOf]; omega
    · have hje : ¬ (j : Int) < (x.ad.length : Int) := by omega
      have HMR := Lib.hid hmr
      clear hmr hva
      go_wp2
      go_ret
      exact ⟨rfl, HMR.out⟩
end
end Go.Proofs.Ytlmgihnnphmmhaa
