/- A range over a map that the loop does not write; twin: a map copied. -/
import Derived.Test.YtbmlggieifaniaaQf
import Derived.Maps.RangeRun
namespace Go.Proofs.Ytbmlggieifaniaa
open Go.RowKit Go.Maps Go.MapKept
open Go.ChangeMaps (setBlock)
set_option linter.unusedVariables false
set_option linter.unusedSimpArgs false

/-- A range over the map b is under way, its iterator in block r; these keys are left. -/
def ItIs (P : Program) (k : TypeId) (w : World) (b r : Nat) (f : Value → Option Value) (left : Value → Prop) (cnt : Nat) : Prop :=
  ∃ es clock seen, w.heap[b]? = some (.map es clock) ∧ w.heap[r]? = some (.mapIter (some b) clock seen clock) ∧ Stamped es clock ∧ (∀ x ∈ es.toList, ∃ l, keyOf P k x.key = some l) ∧ (∀ x ∈ es.toList, f x.key = some x.val) ∧ (∀ key v, f key = some v → ∃ x ∈ es.toList, x.key = key) ∧
    (∀ x ∈ es.toList, left x.key ↔ seen.contains x.born = false) ∧ cnt = (leftOf es seen).size
section
variable {P : Program} {k t e : TypeId} {w w' : World} {b r c : Nat} {f : Value → Option Value} {left : Value → Prop} {cnt : Nat}
theorem ItIs.of_block (h : ItIs P k w b r f left cnt) (hb : w'.heap[b]? = w.heap[b]?) (hr : w'.heap[r]? = w.heap[r]?) : ItIs P k w' b r f left cnt := by
  obtain ⟨es, clock, seen, h1, h2, h3⟩ := h
  exact ⟨es, clock, seen, hb.trans h1, hr.trans h2, h3⟩
theorem ItIs.lt (h : ItIs P k w b r f left cnt) : b < w.heap.size ∧ r < w.heap.size := by
  obtain ⟨es, clock, seen, h1, h2, _⟩ := h
  exact ⟨(Array.getElem?_eq_some_iff.1 h1).1, (Array.getElem?_eq_some_iff.1 h2).1⟩
theorem ItIs.off {S : Nat → Prop} (h : ItIs P k w b r f left cnt) (ho : Off S w w') (hb : ¬ S b) (hr : ¬ S r) : ItIs P k w' b r f left cnt := h.of_block (ho.block b h.lt.1 hb) (ho.block r h.lt.2 hr)
theorem ItIs.left_eq (h : ItIs P k w b r f left cnt) : w.rangeLeft b r = cnt := by
  obtain ⟨es, clock, seen, hb, hr, _, _, _, _, _, hc⟩ := h
  rw [hc]
  simp only [World.rangeLeft, hb, hr]
theorem MapIs.range (h : MapIs P k w b f c) (ht : P.underlying t = some (.map k e)) :
    ∃ w', (Instr.range t (.map (some b))).run P w = .ok (.pointer (some ⟨w.heap.size, 0, none⟩)) w' ∧ ItIs P k w' b w.heap.size f (fun _ => True) c ∧ Below w.heap.size w w' := by
  obtain ⟨es, clock, hb, hst, hc, hk, h1, h2⟩ := h
  have hlt := (Array.getElem?_eq_some_iff.1 hb).1
  refine ⟨_, run_range_map w t k e b es clock ht hb, ⟨es, clock, #[], ?_, heap_alloc_new _ _, hst, hk, h1, h2, fun x _ => by simp, ?_⟩, (Below.refl _ _).alloc (Nat.le_refl _) _⟩
  · rw [heap_alloc_old _ _ hlt]
    exact hb
  · rw [← hc]
    unfold leftOf
    rw [Array.filter_eq_self.2 (by simp)]
/-- The next one, whichever; or none is left. -/
theorem ItIs.next (h : ItIs P k w b r f left cnt) (hbr : b ≠ r) :
    (cnt = 0 ∧ (∀ key v, f key = some v → ¬ left key) ∧ ∀ ty, (Instr.next (.pointer (some ⟨r, 0, none⟩)) false ty).run P w = .ok (.tuple #[.bool false]) w) ∨
    ∃ key val w2, f key = some val ∧ left key ∧ 0 < cnt ∧ (∃ l, keyOf P k key = some l) ∧ (∀ ty, (Instr.next (.pointer (some ⟨r, 0, none⟩)) false ty).run P w = .ok (.tuple #[.bool true, key, val]) w2) ∧ Off (· = r) w w2 ∧ w2.heap.size = w.heap.size ∧
      ItIs P k w2 b r f (fun x => left x ∧ x ≠ key) (cnt - 1) ∧ (Instr.entry (.pointer (some ⟨r, 0, none⟩))).run P w2 = .ok (.tuple #[key, val]) w2 := by
  obtain ⟨es, clock, seen, hb, hr, hst, hk, h1, h2, hl, hc⟩ := h
  have hone := run_next_at (P := P) w
  have hlr := (Array.getElem?_eq_some_iff.1 hr).1
  have memL : ∀ (s : Array Nat) (x : MapEntry), x ∈ (leftOf es s).toList ↔ x ∈ es.toList ∧ s.contains x.born = false := fun s x => by unfold leftOf; simp
  rcases run_next_at (P := P) w 0 r b clock clock seen es clock hr hb hst.1 (Nat.le_refl _) with ⟨h0, hn⟩ | ⟨e0, he0, w1, hw1, hn⟩
  · refine .inl ⟨by omega, fun key v hf hlk => ?_, fun ty => hn⟩
    obtain ⟨x, hx, rfl⟩ := h2 key v hf
    have := (memL seen x).2 ⟨hx, (hl x hx).1 hlk⟩
    have he : leftOf es seen = #[] := Array.eq_empty_of_size_eq_zero h0
    rw [he] at this
    simp at this
  · right
    obtain ⟨m1, m2⟩ := (memL seen e0).1 he0
    have hpos : 0 < (leftOf es seen).size := by
      rcases Nat.eq_zero_or_pos (leftOf es seen).size with h | h
      · have he : leftOf es seen = #[] := Array.eq_empty_of_size_eq_zero h
        rw [he] at he0
        simp at he0
      · exact h
    have hsz1 : w1.heap = w.heap := by rcases hw1 with rfl | rfl <;> rfl
    have ho : Off (· = r) w (setBlock w1 r (.mapIter (some b) clock (seen.push e0.born) clock)) := by
      refine (show Off (· = r) w w1 from ?_).trans (off_setBlock _ _ _ _ rfl)
      rcases hw1 with rfl | rfl
      · exact Off.refl _ _
      · exact (Off.refl _ _).drew
    have hbb : (setBlock w1 r (.mapIter (some b) clock (seen.push e0.born) clock)).heap[b]? = some (.map es clock) := (ho.block b (Array.getElem?_eq_some_iff.1 hb).1 hbr).trans hb
    have hrr : (setBlock w1 r (.mapIter (some b) clock (seen.push e0.born) clock)).heap[r]? = some (.mapIter (some b) clock (seen.push e0.born) clock) := by
      simp [setBlock, hsz1, hlr]
    refine ⟨e0.key, e0.val, _, h1 e0 m1, (hl e0 m1).2 m2, by omega, hk e0 m1, fun ty => hn, ho, by simp [setBlock, hsz1], ⟨es, clock, seen.push e0.born, hbb, hrr, hst, hk, h1, h2, fun x hx => ?_, ?_⟩, run_entry_at _ r b clock seen es clock e0 hrr hbb m1 hst.2.1⟩
    · have hxe : x.key = e0.key ↔ x.born = e0.born := by
        obtain ⟨i, hi⟩ := List.mem_iff_getElem?.1 hx
        obtain ⟨j, hj⟩ := List.mem_iff_getElem?.1 m1
        have il := (List.getElem?_eq_some_iff.1 hi).1
        constructor
        · intro e
          have e1 : (es.toList.map (·.key))[i]? = (es.toList.map (·.key))[j]? := by rw [List.getElem?_map, List.getElem?_map, hi, hj]; simp [e]
          have := (List.getElem?_inj (by simpa using il) hst.2.2).1 e1
          subst this
          rw [hi] at hj
          cases hj
          rfl
        · intro e
          have e1 : (es.toList.map (·.born))[i]? = (es.toList.map (·.born))[j]? := by rw [List.getElem?_map, List.getElem?_map, hi, hj]; simp [e]
          have := (List.getElem?_inj (by simpa using il) hst.2.1).1 e1
          subst this
          rw [hi] at hj
          cases hj
          rfl
      show (left x.key ∧ x.key ≠ e0.key) ↔ _
      rw [contains_push, hl x hx]
      by_cases e : x.born = e0.born
      · simp [e, hxe.2 e]
      · have e2 : ¬ x.key = e0.key := fun h => e (hxe.1 h)
        simp [e, e2]
    · rw [hc]
      have hcnt : ∀ (l : List MapEntry), (l.map (·.born)).Nodup → e0 ∈ l → (l.filter (fun x => !seen.contains x.born)).length = (l.filter (fun x => !(seen.push e0.born).contains x.born)).length + 1 := by
        intro l hnd hml
        have hm0 : (!seen.contains e0.born) = true := by simpa using m2
        induction l with
        | nil => simp at hml
        | cons y l ih =>
          have hn' : y.born ∉ l.map (·.born) ∧ (l.map (·.born)).Nodup := List.nodup_cons.1 hnd
          rcases List.mem_cons.1 hml with rfl | hin
          · have hr2 : l.filter (fun x => !(seen.push e0.born).contains x.born) = l.filter (fun x => !seen.contains x.born) := by
              refine List.filter_congr fun x hx => ?_
              have : x.born ≠ e0.born := fun e => hn'.1 (by rw [← e]; exact List.mem_map.2 ⟨x, hx, rfl⟩)
              rw [contains_push]
              simp [this]
            rw [List.filter_cons, if_pos hm0, List.filter_cons, if_neg (by rw [contains_push]; simp), hr2]
            rfl
          · have hne : y.born ≠ e0.born := fun e => hn'.1 (by rw [e]; exact List.mem_map.2 ⟨e0, hin, rfl⟩)
            have ih2 := ih hn'.2 hin
            have hy : (!(seen.push e0.born).contains y.born) = (!seen.contains y.born) := by rw [contains_push]; simp [hne]
            rw [List.filter_cons, List.filter_cons, hy]
            split
            · simp only [List.length_cons]; omega
            · exact ih2
      have e3 := hcnt es.toList hst.2.1 m1
      have e4 : ∀ s : Array Nat, (leftOf es s).size = (es.toList.filter (fun x => !s.contains x.born)).length := fun s => by unfold leftOf; rw [← Array.length_toList, Array.toList_filter]
      rw [e4, e4, e3]
      rfl
end
open Classical in
noncomputable def goneF (f : Value → Option Value) (left : Value → Prop) : Value → Option Value := fun v => if left v then none else f v
theorem goneF_all (f : Value → Option Value) : goneF f (fun _ => True) = fun _ => none := by funext v; simp [goneF]
theorem goneF_none {f : Value → Option Value} {left : Value → Prop} (h : ∀ key v, f key = some v → ¬ left key) : goneF f left = f := by
  funext v
  unfold goneF
  split
  · rename_i hl
    cases hf : f v with
    | none => rfl
    | some x => exact absurd hl (h v x hf)
  · rfl
theorem goneF_step {f : Value → Option Value} {left : Value → Prop} {key val : Value} (hf : f key = some val) : putK (goneF f left) key val = goneF f (fun x => left x ∧ x ≠ key) := by
  funext v
  unfold putK goneF
  by_cases e : v = key
  · subst e
    simp [hf]
  · rw [if_neg e]
    by_cases hl : left v
    · rw [if_pos hl, if_pos ⟨hl, e⟩]
    · rw [if_neg hl, if_neg (fun h => hl h.1)]
set_option maxRecDepth 100000 in
set_option maxHeartbeats 4000000 in
theorem twin_any {w : World} {b c : Nat} {m : Mp} (h : GMap w b m c) :
    Calls Try.prog 17 #[.map (some b)] w fun e w' => e = .returned (.map (some w.heap.size)) ∧ GMap w' w.heap.size m c ∧ Below w.heap.size w w' := by
  have H := Lib.hid h
  have hblt := MapIs.lt h
  clear h
  have hmm := @run_makeMap Try.prog
  go_enter Try.func17, Try.ntmps17
  go_upto_region 2 with (fail)
  clear hmm
  have hb1 : Below w.heap.size w (w.alloc (.map #[] 0)) := (Below.refl _ _).alloc (Nat.le_refl _) _
  have hsz : (w.alloc (.map #[] 0)).heap.size = w.heap.size + 1 := by simp
  obtain ⟨w2, hr2, hit, hb2⟩ := MapIs.range (show MapIs Try.prog 3 (w.alloc (.map #[] 0)) b (gmF m) c from H.out.off (S := fun _ => False) (Off.of_below hb1) id) Try.underlying30
  have hnew : MapIs Try.prog 3 w2 w.heap.size (goneF (gmF m) (fun _ => True)) 0 := by
    rw [goneF_all]
    exact (MapIs.made w).off (S := fun _ => False) (Off.of_below hb2) id
  have hbw : Below w.heap.size w w2 := hb1.trans (hb2.mono hb1.size)
  rw [hsz] at hr2 hit
  have HIT := Lib.hid hit
  have HNEW := Lib.hid hnew
  have HBW := Lib.hid hbw
  obtain ⟨B, hB⟩ : ∃ B, w.heap.size = B := ⟨_, rfl⟩
  rw [hB] at hr2 HIT HNEW HBW hblt
  rw [hB]
  have HBE := Lib.hid hB
  clear hB
  clear hit hnew hbw hb2 hb1 hsz
  go_wp2_with fail
  go_loopw [4] (fun _ wr => ∃ (left : Value → Prop) (cnt cd : Nat), ItIs Try.prog 3 wr b (B + 1) (gmF m) left cnt ∧ MapIs Try.prog 3 wr B (goneF (gmF m) left) cd ∧ cd + cnt = c ∧ Below B w wr) (fun _ wr => wr.rangeLeft b (B + 1))
  case atStart => exact ⟨_, _, _, HIT.out, HNEW.out, by omega, HBW.out⟩
  case round =>
    obtain ⟨left, cnt, cd, hit, hnew, hcd, hbw⟩ := hrel
    have HIT2 := Lib.hid hit
    have HNEW2 := Lib.hid hnew
    have HBW2 := Lib.hid hbw
    have hbB : b ≠ B + 1 := by omega
    have hnx := hit.next hbB
    clear hit hnew hbw HIT HNEW HBW H hr2
    rcases hnx with ⟨h0, hno, hrun⟩ | ⟨key, val, w3, hf, hlf, hpos, ⟨kl, hkl⟩, hrun, ho, hs3, hit3, hent⟩
    · have HNO := Lib.hid hno
      clear hno
      go_wp2
      go_ret
      rw [HBE.out]
      refine ⟨rfl, ?_, HBW2.out⟩
      have h1 := HNEW2.out
      rw [goneF_none HNO.out] at h1
      rw [show c = cd by omega]
      exact h1
    · have hn3 := HNEW2.out.off ho (by show ¬ B = B + 1; omega)
      obtain ⟨w4, hu4, hm4, ho4⟩ := hn3.put intKeyed Try.underlying30 (val := val) hkl
      rw [goneF_step hf] at hm4
      have hg : (goneF (gmF m) left key) = none := by unfold goneF; rw [if_pos hlf]
      rw [hg, Option.isSome_none, if_neg (by decide)] at hm4
      have hit4 := hit3.off ho4 (by show ¬ b = B; omega) (by show ¬ B + 1 = B; omega)
      have hb4 : Below B w w4 := (HBW2.out.trans (ho.below (fun k e => by rw [e]; omega) (by have h9 := HBW2.out.size; have h8 := HBE.out; omega))).trans (ho4.below (fun k e => by rw [e]; omega) (by rw [hs3]; have h9 := HBW2.out.size; have h8 := HBE.out; omega))
      have HIT4 := Lib.hid hit4
      have HM4 := Lib.hid hm4
      have HB4 := Lib.hid hb4
      clear hn3 hm4 hit4 hb4 ho4 hit3 ho hf hlf hkl hg
      go_wp2
      go_roundw
      case rel => exact ⟨_, _, _, HIT4.out, HM4.out, by omega, HB4.out⟩
      case measure => rw [HIT4.out.left_eq, HIT2.out.left_eq]; omega

structure AArg where
  op : Int
  key : Int
  A : Option Addr
  n : Nat
  c : Nat
  L : Bytes
  turn : Int
def AArg.v (b : AArg) : Value := .slice b.A b.n b.c
def i64In (k : Int) : Prop := -9223372036854775808 ≤ k ∧ k ≤ 9223372036854775807
def AArg.In (w : World) (b : AArg) : Prop := SBy w b.A b.n b.L ∧ b.n ≤ b.c ∧ i64In b.op ∧ i64In b.key ∧ i64In b.turn
/-- Acts that came in. -/
def Acs (w : World) (A : Option Addr) (n : Nat) (b : Nat → AArg) : Prop := 0 < n → ∃ g o, A = some ⟨g, o, none⟩ ∧ g < w.heap.size ∧ ∀ k, k < n → w.cell? ⟨g, o + k * 4, none⟩ = some (.int .i64 (b k).op) ∧ w.cell? ⟨g, o + k * 4 + 1, none⟩ = some (.int .i64 (b k).key) ∧ w.cell? ⟨g, o + k * 4 + 2, none⟩ = some (b k).v ∧ w.cell? ⟨g, o + k * 4 + 3, none⟩ = some (.int .i64 (b k).turn) ∧ (b k).In w
def sumF (b : Nat → AArg) : Nat → Int
  | 0 => 0
  | j + 1 => wrap64 (sumF b j + ((b j).n : Int))
def fewB (b : Nat → AArg) (n : Nat) : Bool := decide ((n : Int) ≤ 120) && decide (sumF b n ≤ 16384)
set_option maxRecDepth 100000 in
set_option maxHeartbeats 4000000 in
theorem few_any {W : World} {A : Option Addr} {n c : Nat} {b : Nat → AArg} (h : Acs W A n b) (hn : n ≤ 9223372036854775807) :
    Calls Try.prog 15 #[.slice A n c] W fun e w' => e = .returned (.bool (fewB b n)) ∧ w' = W := by
  have HP := Lib.hid h
  clear h
  go_enter Try.func15, Try.ntmps15
  go_wp2
  go_loopw [3, 4] (fun s i wr => wr = W ∧ ∃ (j : Nat), j ≤ n ∧ i = .int .i64 (j : Nat) ∧ s = .int .i64 (sumF b j)) (fun _ i _ => n - (intOf i).toNat)
  case atStart => exact ⟨rfl, 0, by omega, rfl, rfl⟩
  case round =>
    obtain ⟨rfl, j, hj, rfl, rfl⟩ := hrel
    by_cases hjn : j < n
    · obtain ⟨g, o, rfl, hg, hc⟩ := HP.out (by omega)
      obtain ⟨_, _, k2, _, _⟩ := hc j hjn
      unfold AArg.v at k2
      have hjI : (j : Int) < (n : Int) := by omega
      have HS : Hid (sumF b (j + 1) = wrap64 (sumF b j + ((b j).n : Int))) := Lib.hid rfl
      clear hc
      go_wp2
      go_roundw
      case rel => exact ⟨trivial, j + 1, by omega, by go_num, by rw [HS.out]⟩
      case measure => simp [intOf]; omega
    · obtain rfl : j = n := by omega
      have hj2 : ¬ (j : Int) < (j : Int) := by omega
      have HF : Hid (fewB b j = (decide ((j : Int) ≤ 120) && decide (sumF b j ≤ 16384))) := Lib.hid rfl
      clear HP
      by_cases h1 : (j : Int) ≤ 120
      · by_cases h2 : sumF b j ≤ 16384
        · have d1 := decide_eq_true h1
          have d2 := decide_eq_true h2
          clear h1 h2
          go_wp2
          go_ret
          exact ⟨by rw [HF.out, d1, d2]; rfl, rfl⟩
        · have d1 := decide_eq_true h1
          have d2 := decide_eq_false h2
          clear h1 h2
          go_wp2
          go_ret
          exact ⟨by rw [HF.out, d1, d2]; rfl, rfl⟩
      · have d1 := decide_eq_false h1
        clear h1
        go_wp2
        go_ret
        exact ⟨by rw [HF.out, d1]; rfl, rfl⟩
theorem Acs.up {w w' : World} {A : Option Addr} {n : Nat} {b : Nat → AArg} (h : Acs w A n b) (hb : Below w.heap.size w w') : Acs w' A n b := fun hp => by
  obtain ⟨g, o, e, hg, hc⟩ := h hp
  refine ⟨g, o, e, Nat.lt_of_lt_of_le hg hb.size, fun k hk => ?_⟩
  obtain ⟨c0, c1, c2, c3, c4, c5⟩ := hc k hk
  exact ⟨(hb.cell (p := ⟨g, o + k * 4, none⟩) hg).trans c0, (hb.cell (p := ⟨g, o + k * 4 + 1, none⟩) hg).trans c1, (hb.cell (p := ⟨g, o + k * 4 + 2, none⟩) hg).trans c2, (hb.cell (p := ⟨g, o + k * 4 + 3, none⟩) hg).trans c3, c4.up hb, c5⟩
section
variable {σ : Type} {K : SnkF σ} {M : Snk K} {w : World} {T : Nat} {O : Nat → Prop} {s : σ} {p : Int}
theorem puts_any (h : TrAt M w T O s p) : Calls Try.prog 16 #[.pointer (some ⟨T, 0, none⟩)] w fun e w' => e = .returned (.int .i64 p) ∧ w' = w := by
  have c1 := h.pu
  have c0 := h.sk
  clear h
  go_enter Try.func16, Try.ntmps16
  go_wp2
  go_ret
  exact ⟨rfl, rfl⟩
set_option maxRecDepth 100000 in
theorem look_bad (w : World) (T : Nat) (r : Int × Int) {key : Int} (hk : ¬ (0 ≤ key ∧ key < 16777216)) :
    Calls Try.prog 18 #[.pointer (some ⟨T, 0, none⟩), addrV r, .int .i64 key] w fun e w' => e = .returned (.tuple #[.slice none 0 0, .bool false, .int .i64 1]) ∧ Below w.heap.size w w' := by
  have hrt : decide (0 ≤ key ∧ key < 16777216) = false := by simp; omega
  unfold addrV
  go_enter Try.func18, Try.ntmps18
  go_wp2_with (go_at_call 22; refine (right_any _ _).mono ?_; rintro e w1 ⟨rfl, rfl⟩; rw [hrt])
  go_ret3
  exact ⟨rfl, (Below.refl _ _).alloc (Nat.le_refl _) _⟩
end
end Go.Proofs.Ytbmlggieifaniaa
