/- disk: Write. -/
import Derived.Test.YtlmgihnnphmmhaaMC
import Derived.Deep.RegionLaw
namespace Go.Proofs.Ytlmgihnnphmmhaa
open Go.RowKit Go.Maps
set_option linter.unusedVariables false
set_option linter.unusedSimpArgs false

theorem write_info : (Try.prog.info? 111).map (fun i => (i.zero, i.size, i.bytes)) = some (some (.agg #[.int .i64 0, .slice none 0 0]), 2, 32) := by kernel_rfl
/-- append of one write. -/
theorem run_appW {B : Nat} {w : World} {v : Value} {P : List (Nat × Bytes × Value)} {g : Nat} {s : Nat} {L : Bytes} {A : Option Addr} {n c : Nat} (hown : w.ownsRow B 111 2 v P.length (pcells P)) (hc : w.cell? ⟨g, 0, none⟩ = some (.int .i64 (s : Nat))) (hc1 : w.cell? ⟨g, 1, none⟩ = some (.slice A n c)) (hB : B ≤ w.heap.size) (hlen : P.length ≤ 1048576) (ty : TypeId) :
    ∃ v' w', (Builtin.append_ #[71, 71] ty #[v, .slice (some ⟨g, 0, none⟩) 1 1]).run Try.prog w = .ok v' w' ∧ w'.ownsRow B 111 2 v' (P ++ [(s, L, Value.slice A n c)]).length (pcells (P ++ [(s, L, Value.slice A n c)])) ∧ w.grownBy w' v.ownBlock ∧ (v'.ownBlock = v.ownBlock ∨ v'.ownBlock = some w.heap.size) := by
  obtain ⟨i0, hi, hz0, hz1, hz2⟩ := info_parts write_info
  obtain ⟨v', w', hr, ho, hg, _, hat⟩ := run_append_own_at (P := Try.prog) w B 71 ty 111 i0 _ 2 32 Try.underlying71 hi hz0 hz1 hz2 rfl (by omega) v P.length (pcells P) hown ⟨g, 0, none⟩ 1 1 [.int .i64 (s : Nat), .slice A n c]
    rfl (fun j u hj => by
      have e : ∀ j, (⟨g, 0, none⟩ : Addr).add j = ⟨g, j, none⟩ := fun j => by unfold Addr.add; split <;> simp_all
      rw [e]
      match j, hj with
      | 0, hj => simp at hj; rw [hc, hj]
      | 1, hj => simp at hj; rw [hc1, hj]) (fun u hu => by
      simp only [List.mem_cons, List.mem_singleton, List.not_mem_nil, or_false] at hu
      rcases hu with rfl | rfl <;> simp [Value.oneCell']) (by unfold maxLen; omega) (by omega) hB
  refine ⟨v', w', hr, ?_, hg, hat⟩
  rw [List.length_append]
  have : pcells (P ++ [(s, L, Value.slice A n c)]) = pcells P ++ [.int .i64 (s : Nat), .slice A n c] := by simp [pcells]
  rw [this]
  exact ho
theorem step_appW {ops : Array Oper} {o : Oper} {a : Act} {w : World} {K : Act → World → Prop} {Q : Exit → Act → World → Prop} {E : Prop} (hgd : o.guard = none) (sl x : Operand)
    (ho : o.op = .call { callee := .builtin .append, args := #[sl, x], argTypes := #[71, 71] }) (B : Nat) (v : Value) (P : List (Nat × Bytes × Value)) (g s : Nat) (L : Bytes) (A : Option Addr) (n c : Nat) (hs : a.eval sl = v) (hown : w.ownsRow B 111 2 v P.length (pcells P)) (hx : a.eval x = .slice (some ⟨g, 0, none⟩) 1 1)
    (hc : w.cell? ⟨g, 0, none⟩ = some (.int .i64 (s : Nat))) (hc1 : w.cell? ⟨g, 1, none⟩ = some (.slice A n c)) (hB : B ≤ w.heap.size) (hlen : P.length ≤ 1048576)
    (h : ∀ v' w', w'.ownsRow B 111 2 v' (P ++ [(s, L, Value.slice A n c)]).length (pcells (P ++ [(s, L, Value.slice A n c)])) → w.grownBy w' v.ownBlock → (v'.ownBlock = v.ownBlock ∨ v'.ownBlock = some w.heap.size) → (∃ A2 n2 c2, v' = .slice A2 n2 c2) → K (a.put o.dst v') w') :
    if Region.wanted o (yielded ops a.tmps) = true then Oper.wp Try.prog o a w K Q else E := by
  have hw : Region.wanted o (yielded ops a.tmps) = true := by simp [Region.wanted, hgd]
  rw [if_pos hw]
  obtain ⟨v', w', hr, h1, h2, h3⟩ := run_appW (L := L) hown hc hc1 hB hlen o.type
  unfold Oper.wp execOp
  simp only [ho, resolve, invoke, builtin, Sem.run_bind, Sem.run_pure, Result.andThen_ok, List.map_toArray, List.map_cons, List.map_nil, hs, hx, hr]
  refine h v' w' h1 h2 h3 ?_
  rcases h1.2 with ⟨rfl, _⟩ | ⟨g, cap, cur, rfl, _⟩
  · exact ⟨_, _, _, rfl⟩
  · exact ⟨_, _, _, rfl⟩

def DkS.write (d : DkS) (s : Nat) (L : Bytes) : DkS := { d with pend := d.pend ++ [(s, L)] }
theorem lastG_write (d : DkS) (s : Nat) (L : Bytes) : lastG (d.write s L) = fun j => if j = (s : Int) then some (.int .i64 (d.pend.length : Nat)) else lastG d j := by
  funext j
  unfold lastG
  by_cases h0 : 0 ≤ j
  · rw [if_pos h0, if_pos h0]
    show (lastOf (d.pend ++ [(s, L)]) j.toNat).map _ = _
    rw [lastOf_snoc]
    by_cases hj : j = (s : Int)
    · subst hj
      rw [if_pos rfl, if_pos (by simp)]
      simp
    · rw [if_neg hj, if_neg (by simp only; omega)]
  · rw [if_neg h0, if_neg h0, if_neg (by omega)]
section
variable {B : Nat} {w w' : World} {D Kb Mb : Nat} {pv pv' : Value} {P : List (Nat × Bytes × Value)} {kv : Nat → Value} {Da : Nat → Prop} {d : DkS} {O : Nat → Prop}
/-- A write is laid down. -/
theorem DkIn.write (hi : DkIn B w D Kb Mb pv P kv Da d) {s : Nat} {L : Bytes} {g' o' c' : Nat} (hs : s < d.S) (ho : Off (fun g => g = D ∨ g = Mb ∨ pv.ownBlock = some g) w w')
    (hc : ∀ j, j ≠ 5 → j ≠ 7 → w'.cell? ⟨D, j, none⟩ = w.cell? ⟨D, j, none⟩) (h5 : w'.cell? ⟨D, 5, none⟩ = some pv') (h7 : ∃ i : Int, w'.cell? ⟨D, 7, none⟩ = some (.int .i64 i)) (hf : ∀ j, w'.frozen? ⟨D, j, none⟩ = false)
    (row : w'.ownsRow B 111 2 pv' (P ++ [(s, L, Value.slice (some ⟨g', o', none⟩) d.z c')]).length (pcells (P ++ [(s, L, Value.slice (some ⟨g', o', none⟩) d.z c')]))) (mp : ∃ c, MapIs Try.prog 109 w' Mb (pF (lastG (d.write s L))) c)
    (hdl : ∀ g, Da g → g < w.heap.size) (hg : w.heap.size ≤ g') (hb : SBy w' (some ⟨g', o', none⟩) d.z L) (hzc : d.z ≤ c') (hat : pv'.ownBlock = pv.ownBlock ∨ ∃ G, pv'.ownBlock = some G ∧ w.heap.size ≤ G ∧ G ≠ g') :
    DkIn B w' D Kb Mb pv' (P ++ [(s, L, Value.slice (some ⟨g', o', none⟩) d.z c')]) kv (fun g => Da g ∨ g = g') (d.write s L) := by
  obtain ⟨l1, l2, l3, l4⟩ := hi.lens
  have hKn : ¬ (Kb = D ∨ Kb = Mb ∨ pv.ownBlock = some Kb) := by
    rintro (e | e | e)
    · exact hi.ne.1 e.symm
    · exact hi.ne.2.2.1 e
    · exact (hi.ne.2.2.2 Kb e).2.1 rfl
  have hda : ∀ g, Da g → ¬ (g = D ∨ g = Mb ∨ pv.ownBlock = some g) := fun g hg e => hi.da g hg (by
    rcases e with e | e | e
    · exact .inl e
    · exact .inr (.inr (.inl e))
    · exact .inr (.inr (.inr e)))
  refine ⟨(hc 0 (by omega) (by omega)).trans hi.c0, (hc 1 (by omega) (by omega)).trans hi.c1, hi.c2.imp fun v hv => (hc 2 (by omega) (by omega)).trans hv, (hc 3 (by omega) (by omega)).trans hi.c3, (hc 4 (by omega) (by omega)).trans hi.c4, h5, (hc 6 (by omega) (by omega)).trans hi.c6, h7, hi.c8.imp fun i hi => (hc 8 (by omega) (by omega)).trans hi, hf, row, ?_, ?_, fun k hk => (ho.cell (p := ⟨Kb, k, none⟩) l2 hKn).trans (hi.kc k hk), fun j => (ho.frozen (p := ⟨Kb, j, none⟩) l2 hKn).trans (hi.kf j), hi.kn,
    fun k L hk hL => ((hi.kb k L hk hL).off ho hda).mono fun g => .inl, mp, ⟨hi.ne.1, hi.ne.2.1, hi.ne.2.2.1, fun g hg => ?_⟩, fun g hg hm => ?_, hi.bz⟩
  · show d.pend ++ [(s, L)] = _
    rw [hi.pd, List.map_append]
    rfl
  · intro p hp
    rcases List.mem_append.1 hp with hp | hp
    · exact ⟨(hi.pb p hp).1, ((hi.pb p hp).2.off ho hda).mono fun g => .inl⟩
    · rw [List.mem_singleton.1 hp]
      exact ⟨hs, g', o', c', rfl, hzc, .inr rfl, hb⟩
  · rcases hat with e | ⟨G, e, h1, h2⟩
    · exact hi.ne.2.2.2 g (e ▸ hg)
    · rw [e] at hg; cases hg; exact ⟨by omega, by omega, by omega⟩
  · have hnew : ∀ g, pv'.ownBlock = some g → (pv.ownBlock = some g) ∨ (w.heap.size ≤ g ∧ g ≠ g') := fun g hg => by
      rcases hat with e | ⟨G, e, h1, h2⟩
      · exact .inl (e ▸ hg)
      · rw [e] at hg; cases hg; exact .inr ⟨h1, h2⟩
    rcases hg with hg | rfl
    · rcases hm with e | e | e | e
      · exact hi.da g hg (.inl e)
      · exact hi.da g hg (.inr (.inl e))
      · exact hi.da g hg (.inr (.inr (.inl e)))
      · rcases hnew g e with h1 | h1
        · exact hi.da g hg (.inr (.inr (.inr h1)))
        · have := hdl g hg; omega
    · rcases hm with e | e | e | e
      · omega
      · omega
      · omega
      · rcases hnew _ e with h1 | h1
        · have := (l4 _ h1).2; omega
        · exact h1.2 rfl
theorem rowW_off {v : Value} {n : Nat} {xs : List Value} {S : Nat → Prop} (h : w.ownsRow B 111 2 v n xs) (ho : Off S w w') (hs : ∀ g, v.ownBlock = some g → ¬ S g) : w'.ownsRow B 111 2 v n xs := by
  refine ⟨h.1, ?_⟩
  rcases h.2 with hn | ⟨g, cap, cur, hh, hb, hgg, rest⟩
  · exact .inl hn
  · refine .inr ⟨g, cap, cur, hh, hb, ?_, rest⟩
    rw [ho.block g (Array.getElem?_eq_some_iff.1 hgg).1 (hs g (by rw [hh]; rfl))]
    exact hgg
/-- The steps of Write, one behind the other. -/
theorem DkIn.write2 (hi : DkIn B w D Kb Mb pv P kv Da d) {s : Nat} {L : Bytes} (hs : s < d.S) (hdl : ∀ g, Da g → g < w.heap.size) {w2 w3 w4 w5 : World} (h2 : Off (fun g => g = Mb) w w2) {cm : Nat} (hm : MapIs Try.prog 109 w2 Mb (pF (lastG (d.write s L))) cm)
    {A' : Option Addr} {c' : Nat} (h3 : FrB w2.drew w3 (.slice A' d.z c') L) (hA : ∃ b, A' = some ⟨b, 0, none⟩) (h4 : Below w3.heap.size w3 w4) (row : w5.ownsRow B 111 2 pv' (P ++ [(s, L, Value.slice A' d.z c')]).length (pcells (P ++ [(s, L, Value.slice A' d.z c')])))
    (h5 : w4.grownBy w5 pv.ownBlock) (hat : pv'.ownBlock = pv.ownBlock ∨ pv'.ownBlock = some w4.heap.size) :
    (∃ g', A' = some ⟨g', 0, none⟩ ∧ w.heap.size ≤ g' ∧ DkIn B (w5.setCell ⟨D, 5, none⟩ pv') D Kb Mb pv' (P ++ [(s, L, Value.slice A' d.z c')]) kv (fun g => Da g ∨ g = g') (d.write s L)) ∧ Off (fun g => g = D ∨ g = Mb ∨ pv.ownBlock = some g) w (w5.setCell ⟨D, 5, none⟩ pv') ∧
      (∀ g, pv'.ownBlock = some g → pv.ownBlock = some g ∨ w.heap.size ≤ g) ∧ (∀ g, pv'.ownBlock = some g → g < w5.heap.size) ∧ w3.heap.size ≤ w5.heap.size := by
  obtain ⟨l1, l2, l3, l4⟩ := hi.lens
  obtain ⟨g', rfl⟩ := hA
  have hg5 := grown_off h5
  have s2 := h2.size
  have s3 : w2.heap.size ≤ w3.heap.size := h3.size
  have s4 := h4.size
  have s5 := hg5.size
  have hg' := h3.own.lt g' rfl
  have hg1 : w2.heap.size ≤ g' := hg'.1
  have hpvD : ¬ pv.ownBlock = some D := fun e => (hi.ne.2.2.2 D e).1 rfl
  have hpvM : ¬ pv.ownBlock = some Mb := fun e => (hi.ne.2.2.2 Mb e).2.2 rfl
  have o23 : Off (fun _ => False) w2 w3 := (Off.refl _ w2).drew.trans (Off.of_below h3.bel)
  have o24 : Off (fun _ => False) w2 w4 := o23.trans (Off.of_below h4)
  have o25 : Off (fun g => pv.ownBlock = some g) w2 w5 := (o24.mono fun _ => False.elim).trans hg5
  have o56 : Off (fun g => g = D) w5 (w5.setCell ⟨D, 5, none⟩ pv') := (Off.refl (fun g => g = D) w5).setCell (p := ⟨D, 5, none⟩) rfl _
  have o06 : Off (fun g => g = D ∨ g = Mb ∨ pv.ownBlock = some g) w (w5.setCell ⟨D, 5, none⟩ pv') :=
    ((h2.mono (S' := fun g => g = D ∨ g = Mb ∨ pv.ownBlock = some g) fun g e => .inr (.inl e)).trans (o25.mono fun g e => .inr (.inr e))).trans (o56.mono fun g e => .inl e)
  have cD : ∀ j, w5.cell? ⟨D, j, none⟩ = w.cell? ⟨D, j, none⟩ := fun j => (o25.cell (p := ⟨D, j, none⟩) (by show D < _; omega) hpvD).trans (h2.cell (p := ⟨D, j, none⟩) l1 hi.ne.2.1)
  have fD : ∀ j, w5.frozen? ⟨D, j, none⟩ = w.frozen? ⟨D, j, none⟩ := fun j => (o25.frozen (p := ⟨D, j, none⟩) (by show D < _; omega) hpvD).trans (h2.frozen (p := ⟨D, j, none⟩) l1 hi.ne.2.1)
  have hrl := World.ownsRow.lt row
  have hnew : ∀ g, pv'.ownBlock = some g → pv.ownBlock = some g ∨ g = w4.heap.size := fun g hg => by
    rcases hat with e | e
    · exact .inl (e ▸ hg)
    · rw [e] at hg; cases hg; exact .inr rfl
  refine ⟨⟨g', rfl, by omega, ?_⟩, o06, fun g hg => (hnew g hg).imp id fun e => by omega, fun g hg => (hrl g hg).2, by omega⟩
  refine hi.write hs o06 (fun j hj _ => ?_) (World.cell?_setCell_same _ _ _ ((cD 5).trans hi.c5)) ?_ (fun j => by rw [World.frozen?_setCell, fD]; exact hi.zf j) (rowW_off row o56 fun g hg e => ?_) ⟨cm, (hm.off o25 hpvM).off o56 (fun e => hi.ne.2.1 e.symm)⟩ hdl (by omega) ?_ h3.cap ?_
  · rw [World.cell?_setCell_other _ _ _ _ (fun e => hj (by injection e with e1 e2; exact e2.symm)), cD]
  · obtain ⟨i, h7⟩ := hi.c7
    exact ⟨i, by rw [World.cell?_setCell_other _ _ _ _ (fun e => by injection e with e1 e2; omega), cD]; exact h7⟩
  · rcases hnew g hg with h | h
    · exact (hi.ne.2.2.2 g h).1 e
    · omega
  · refine ((h3.sby.up h4).off hg5 (fun k o e e2 => ?_)).off o56 (fun k o e e2 => ?_)
    · cases e
      have := (l4 _ e2).2
      omega
    · cases e
      omega
  · rcases hat with e | e
    · exact .inl e
    · exact .inr ⟨_, e, by omega, by omega⟩
/-- What Write does. -/
def WrPost (B : Nat) (w : World) (D : Nat) (d : DkS) (O : Nat → Prop) (e : Ending) (w' : World) (err : Nat) : Prop :=
  e = .returned (.int .i64 (err : Nat)) ∧ Off O w w' ∧ ∃ O', DkAt B w' D d O' ∧ ∀ g, O' g → O g ∨ w.heap.size ≤ g
set_option maxRecDepth 100000 in
set_option maxHeartbeats 2000000 in
theorem dkWriteOff_any (h : DkAt B w D d O) (hoff : d.off = true) (s : Int) (x : Value) : Calls Try.prog 47 #[.pointer (some ⟨D, 0, none⟩), .int .i64 s, x] w fun e w' => e = .returned (.int .i64 8) ∧ w' = w := by
  obtain ⟨Kb, Mb, pv, P, kv, Da, hi, h2, h3⟩ := h
  have HOff := Lib.hid (dkOff_any hi.c0)
  rw [hoff] at HOff
  clear hi h2 h3
  go_enter Try.func47, Try.ntmps47
  go_wp2_with fail
  refine HOff.out.mono ?_
  rintro _ _ ⟨rfl, rfl⟩
  go_wp2
  go_ret
  exact ⟨rfl, rfl⟩
set_option maxRecDepth 100000 in
set_option maxHeartbeats 4000000 in
theorem dkWrite_any (h : DkAt B w D d O) (hof : d.off = false) {s : Nat} (hs : s < d.S) {A : Option Addr} {c : Nat} {L : Bytes} (hL : SBy w A d.z L) (hzc : d.z ≤ c) (hpn : d.pend.length ≤ 1000000) :
    Calls Try.prog 47 #[.pointer (some ⟨D, 0, none⟩), .int .i64 (s : Nat), .slice A d.z c] w fun e w' => WrPost B w D (d.write s L) O e w' 0 := by
  obtain ⟨w0, hw0⟩ : ∃ w0, w0 = w := ⟨_, rfl⟩
  obtain ⟨Kb, Mb, pv, P, kv, Da, hi, h2, h3⟩ := h
  have HI : Hid (DkIn B w0 D Kb Mb pv P kv Da d) := by rw [hw0]; exact hi
  have HLL : Hid (SBy w0 A d.z L) := by rw [hw0]; exact hL
  have HO2 := Lib.hid h2
  have HO3 : Hid (∀ g, O g → B ≤ g ∧ g < w0.heap.size) := by rw [hw0]; exact h3
  have HPST : Hid ((fun e w' => WrPost B w D (d.write s L) O e w' 0) = (fun e w' => WrPost B w0 D (d.write s L) O e w' 0)) := by rw [hw0]; exact rfl
  rw [HPST.out]
  clear HPST
  have HOff := Lib.hid (dkOff_any hi.c0)
  rw [hof] at HOff
  have HGo := Lib.hid (dkGoes_any hi.c1)
  have HTh := Lib.hid (dkThere_any (s := (s : Int)) hi.c4)
  rw [show decide (0 ≤ (s : Int) ∧ (s : Int) < (d.S : Int)) = true by simp [hs]] at HTh
  have c3 := hi.c3
  have c5 := hi.c5
  have c6 := hi.c6
  obtain ⟨cm, hmp⟩ := hi.mp
  obtain ⟨kl, hkl⟩ := place_key (n := s) (by have := hi.bz; omega)
  have hpl : P.length = d.pend.length := by rw [hi.pd, List.length_map]
  have hpv : ∃ Ap np cp, pv = .slice Ap np cp ∧ np = P.length := by
    rcases hi.row.2 with ⟨hh, h0⟩ | ⟨g, cap, cur, hh, _⟩
    · exact ⟨_, _, _, hh, h0.symm⟩
    · exact ⟨_, _, _, hh, rfl⟩
  obtain ⟨Ap, np, cp, rfl, hnp⟩ := hpv
  subst hnp
  obtain ⟨w2, hu, hm2, hoff2⟩ := (hmp.off (S := fun _ => False) ((Off.refl _ w).drew) id).put placeKeyed Try.underlying72 (val := .int .i64 (P.length : Nat)) hkl
  rw [show (Value.agg #[.int .i64 (s : Nat)]) = placeV (s : Int) from rfl, pF_put] at hm2
  have hge : (fun j => if j = (s : Int) then some (Value.int .i64 (P.length : Nat)) else lastG d j) = lastG (d.write s L) := by rw [lastG_write, hpl]
  rw [hge] at hm2
  have HM2 := Lib.hid hm2
  have HF2 : Hid (Off (fun g => g = Mb) w0 w2) := by rw [hw0]; exact ((Off.refl _ w).drew).trans hoff2
  have HU := Lib.hid hu
  have HPL := Lib.hid hpl
  clear hi h2 h3 hmp hge hm2 hoff2 hu hw0 hL hkl hpl
  go_enter Try.func47, Try.ntmps47
  go_wp2_with fail
  refine HOff.out.mono ?_
  rintro _ _ ⟨rfl, rfl⟩
  clear HOff
  go_wp2_with fail
  refine HTh.out.mono ?_
  rintro _ _ ⟨rfl, rfl⟩
  clear HTh
  go_wp2_with fail
  refine HGo.out.mono ?_
  rintro _ w1 ⟨rfl, rfl⟩
  clear HGo
  go_upto_region 8 with (fail)
  have hu := HU.out
  go_still_tail 11, (by kernel_rfl)
  change wpList _ _ _ _ _ w1.drew
  go_upto_region 9 with (fail)
  obtain ⟨l1, l2, l3, l4⟩ := HI.out.lens
  have nD : D ≠ Mb := HI.out.ne.2.1
  have c5' : w2.cell? ⟨D, 5, none⟩ = some (.slice Ap P.length cp) := (HF2.out.cell (p := ⟨D, 5, none⟩) l1 nD).trans HI.out.c5
  have z5' : w2.frozen? ⟨D, 5, none⟩ = false := (HF2.out.frozen (p := ⟨D, 5, none⟩) l1 nD).trans (HI.out.zf 5)
  have l1' : D < w2.heap.size := Nat.lt_of_lt_of_le l1 HF2.out.size
  have HS2 : Hid (SBy w2.drew A d.z L) := (HLL.out.off HF2.out (fun k o e => by
    rintro rfl
    obtain ⟨g, o2, e2, _, hcc⟩ := HLL.out.2 HI.out.bz.1
    rw [e] at e2
    cases e2
    obtain ⟨cx, hcx⟩ := HI.out.mp
    have h0 := hcc 0 HI.out.bz.1
    rw [hcx.no_cell] at h0
    cases h0)).drew
  have hrow2 : w2.ownsRow B 111 2 (.slice Ap P.length cp) P.length (pcells P) := by
    refine ⟨HI.out.row.1, ?_⟩
    rcases HI.out.row.2 with hn | ⟨g, cap, cur, hh, hb, hgg, rest⟩
    · exact .inl hn
    · refine .inr ⟨g, cap, cur, hh, hb, ?_, rest⟩
      rw [HF2.out.block g (Array.getElem?_eq_some_iff.1 hgg).1 (HI.out.ne.2.2.2 g (by rw [hh]; rfl)).2.2]
      exact hgg
  have HR2 : Hid (w2.drew.ownsRow B 111 2 (.slice Ap P.length cp) P.length (pcells P)) := hrow2
  have HCL := Lib.hid (clone_any w2.drew A d.z c L HS2.out (by have := HI.out.bz; omega))
  have hBl : B ≤ w0.heap.size := by have := HO3.out D (HO2.out D (.inl (.inl rfl))); omega
  have hs02 := HF2.out.size
  have HDL : Hid (∀ g, Da g → g < w0.heap.size) := fun g hg => (HO3.out g (HO2.out g (.inr hg))).2
  have HZ := HI.out.bz.1
  clear hrow2 c3 c5 c6 hu HU l1 l2 l3 l4
  have hb4 : ∀ (w3 : World) o, Below w3.heap.size w3 (w3.alloc o) := fun w3 o => (Below.refl _ _).alloc (Nat.le_refl _) _
  have HB4 := Lib.hid hb4
  have hl48 : P.length ≤ 1048576 := by have := HPL.out; omega
  clear hb4
  go_region_law (first | (go_simp; go_at_call 58; refine HCL.out.mono ?_; rintro _ w3 ⟨A', c', rfl, h3, hA3⟩; have H3 := Lib.hid h3; have lD3 : D < w3.heap.size := Nat.lt_of_lt_of_le l1' h3.size; have c53 := (h3.bel.cell (p := ⟨D, 5, none⟩) l1').trans c5'; have z53 := (h3.bel.frozen (p := ⟨D, 5, none⟩) l1').trans z5'; clear h3) | (refine step_appW (by rfl) _ _ (by rfl) B (.slice Ap P.length cp) P w3.heap.size s L A' d.z c' (by rfl) (rowW_off HR2.out ((Off.of_below H3.out.bel).trans (Off.of_below (S := fun _ => False) (HB4.out w3 _))) (fun _ _ => id)) (by rfl) (by rw [cell_of_row _ _ _ _ _ _ (heap_alloc_new w3 _)]; rfl) (by rw [cell_of_row _ _ _ _ _ _ (heap_alloc_new w3 _)]; rfl) (by have := H3.out.size; have h0 : w2.heap.size ≤ w3.heap.size := this; simp; omega) hl48 ?_; rintro v' w5 h5 hg5 hat ⟨A5, n5, c5v, rfl⟩; have HFIN := Lib.hid (HI.out.write2 hs HDL.out HF2.out HM2.out H3.out (hA3 HZ) (HB4.out w3 _) h5 hg5 hat); have c55 := ((grown_off hg5).cell (p := ⟨D, 5, none⟩) (by have h0 : w2.heap.size ≤ w3.heap.size := H3.out.size; simp; omega) (fun e => (HI.out.ne.2.2.2 D e).1 rfl)).trans (((HB4.out w3 _).cell (p := ⟨D, 5, none⟩) (by have h0 : w2.heap.size ≤ w3.heap.size := H3.out.size; show D < _; omega)).trans c53); have z55 := ((grown_off hg5).frozen (p := ⟨D, 5, none⟩) (by have h0 : w2.heap.size ≤ w3.heap.size := H3.out.size; simp; omega) (fun e => (HI.out.ne.2.2.2 D e).1 rfl)).trans (((HB4.out w3 _).frozen (p := ⟨D, 5, none⟩) (by have h0 : w2.heap.size ≤ w3.heap.size := H3.out.size; show D < _; omega)).trans z53)))
  all_goals
    go_upto_region 10 with (fail)
    refine wp_forget (fun W => Off O w0 W ∧ ∃ O', DkAt B W D (d.write s L) O' ∧ ∀ g, O' g → O g ∨ w0.heap.size ≤ g) ?fin ?_
    case fin =>
      obtain ⟨⟨g', hA', hg', hin⟩, hoff, hpv, hpl, hsz⟩ := HFIN.out
      refine ⟨hoff.mono fun g hg => HO2.out g (.inl ?_), fun g => O g ∨ g = g' ∨ Value.ownBlock (.slice A5 n5 c5v) = some g, ⟨Kb, Mb, _, _, kv, _, hin, fun g hg => ?_, fun g hg => ?_⟩, fun g hg => ?_⟩
      · rcases hg with e | e | e
        · exact .inl e
        · exact .inr (.inr (.inl e))
        · exact .inr (.inr (.inr e))
      · rcases hg with (e | e | e | e) | (e | e)
        · exact .inl (HO2.out g (.inl (.inl e)))
        · exact .inl (HO2.out g (.inl (.inr (.inl e))))
        · exact .inl (HO2.out g (.inl (.inr (.inr (.inl e)))))
        · exact .inr (.inr e)
        · exact .inl (HO2.out g (.inr e))
        · exact .inr (.inl e)
      · have hsz2 : w5.heap.size = (w5.setCell ⟨D, 5, none⟩ (.slice A5 n5 c5v)).heap.size := by simp [World.setCell]
        have hs0 := hoff.size
        rcases hg with e | e | e
        · have := HO3.out g e; exact ⟨this.1, by omega⟩
        · have h1 : g' < w3.heap.size := by
            have := H3.out.own.lt g' (by rw [hA']; rfl)
            exact this.2
          exact ⟨by omega, by omega⟩
        · have h1 := hpl g e
          rcases hpv g e with h2 | h2
          · have := HO3.out g (HO2.out g (.inl (.inr (.inr (.inr h2))))); exact ⟨this.1, by omega⟩
          · exact ⟨by omega, by omega⟩
      · rcases hg with e | e | e
        · exact .inl e
        · exact .inr (by omega)
        · rcases hpv g e with h2 | h2
          · exact .inl (HO2.out g (.inl (.inr (.inr (.inr h2)))))
          · exact .inr h2
    clear HFIN H3 c53 z53 c55 z55 hat h5 hg5 hA3 HR2 HCL HS2 HM2 HF2 lD3
    rintro W ⟨hoW, O', hW, hO'⟩
    have HW := Lib.hid hW
    have HOW := Lib.hid hoW
    have HO' := Lib.hid hO'
    obtain ⟨Kb', Mb', pv', P', kv', Da', hi', h2', h3'⟩ := hW
    obtain ⟨x7, c7⟩ := hi'.c7
    have z7 := hi'.zf 7
    have hD := HO2.out D (.inl (.inl rfl))
    have HC : Hid (∀ y, Off O w0 (W.setCell ⟨D, 7, none⟩ (.int .i64 y))) := fun y => HOW.out.setCell (p := ⟨D, 7, none⟩) hD _
    clear hi' h2' h3' hoW hO'
    go_wp2
    go_ret
    exact ⟨rfl, HC.out _, O', HW.out.count 7 (.inl rfl) _, HO'.out⟩
end
end Go.Proofs.Ytlmgihnnphmmhaa
