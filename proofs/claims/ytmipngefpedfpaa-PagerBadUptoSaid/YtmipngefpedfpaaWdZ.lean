/- PagerPuts: what it is not about; its words. -/
import Derived.Test.YtmipngefpedfpaaWcZ
namespace Go.Proofs.Ytmipngefpedfpaa
open Go.RowKit Go.Maps
set_option linter.unusedVariables false
set_option linter.unusedSimpArgs false

/-- A slice of ints that came in. -/
def SIn (w : World) (A : Option Addr) (n : Nat) (G : Nat → Int) : Prop := 0 < n → ∃ b o, A = some ⟨b, o, none⟩ ∧ b < w.heap.size ∧ ∀ k, k < n → w.cell? ⟨b, o + k, none⟩ = some (.int .i64 (G k))
theorem SIn.up {w w' : World} {A : Option Addr} {n : Nat} {G : Nat → Int} (h : SIn w A n G) (hb : Below w.heap.size w w') : SIn w' A n G := fun hp => by
  obtain ⟨b, o, h1, h2, h3⟩ := h hp
  exact ⟨b, o, h1, Nat.lt_of_lt_of_le h2 hb.size, fun k hk => (hb.cell h2).trans (h3 k hk)⟩
set_option maxRecDepth 100000 in
set_option maxHeartbeats 4000000 in
theorem puts_no (w : World) {size held : Int} {A B : Option Addr} {na ca nb cb : Nat} (h : ¬ (16 ≤ size ∧ size ≤ 256 ∧ 1 ≤ held ∧ held ≤ 20 ∧ na ≤ 20 ∧ nb ≤ 50)) :
    Calls Try.prog 4 #[.int .i64 size, .int .i64 held, .slice A na ca, .slice B nb cb] w fun e w' => e = .returned (.bool true) ∧ Below w.heap.size w w' := by
  by_cases h1 : size < 16
  · clear h
    go_enter Try.func4, Try.ntmps4
    go_wp2_with (go_at_call 8; refine (known_any _).mono ?_; rintro e w1 ⟨rfl, hb⟩; have HB := Lib.hid hb; clear hb)
    go_ret
    exact ⟨rfl, HB.out⟩
  by_cases h2 : 256 < size
  · clear h
    go_enter Try.func4, Try.ntmps4
    go_wp2_with (go_at_call 8; refine (known_any _).mono ?_; rintro e w1 ⟨rfl, hb⟩; have HB := Lib.hid hb; clear hb)
    go_ret
    exact ⟨rfl, HB.out⟩
  by_cases h3 : held < 1
  · clear h
    go_enter Try.func4, Try.ntmps4
    go_wp2_with (go_at_call 8; refine (known_any _).mono ?_; rintro e w1 ⟨rfl, hb⟩; have HB := Lib.hid hb; clear hb)
    go_ret
    exact ⟨rfl, HB.out⟩
  by_cases h4 : 20 < held
  · clear h
    go_enter Try.func4, Try.ntmps4
    go_wp2_with (go_at_call 8; refine (known_any _).mono ?_; rintro e w1 ⟨rfl, hb⟩; have HB := Lib.hid hb; clear hb)
    go_ret
    exact ⟨rfl, HB.out⟩
  by_cases h5 : (20 : Int) < (na : Int)
  · clear h
    go_enter Try.func4, Try.ntmps4
    go_wp2_with (go_at_call 8; refine (known_any _).mono ?_; rintro e w1 ⟨rfl, hb⟩; have HB := Lib.hid hb; clear hb)
    go_ret
    exact ⟨rfl, HB.out⟩
  by_cases h6 : (50 : Int) < (nb : Int)
  · clear h
    go_enter Try.func4, Try.ntmps4
    go_wp2_with (go_at_call 8; refine (known_any _).mono ?_; rintro e w1 ⟨rfl, hb⟩; have HB := Lib.hid hb; clear hb)
    go_ret
    exact ⟨rfl, HB.out⟩
  exact absurd (by omega) h
/-- What page number i + 1 holds. -/
def pgB (z : Nat) (Lw : Bytes) (i : Nat) : Bytes := setB (zeros z) 0 [b8 (at8 Lw i), b8 i]
def CnP (z : Nat) (Lw : Bytes) (n : Nat) : Cn := fun id => if 1 ≤ id ∧ id ≤ n then some (some (pgB z Lw (id - 1).toNat)) else none
def idL (n : Nat) : List Int := (List.range n).map fun (i : Nat) => (i : Int) + 1
theorem idL_len (n : Nat) : (idL n).length = n := by simp [idL]
theorem idL_at {n i : Nat} (h : i < n) : (idL n).getD i 0 = (i : Int) + 1 := by simp [idL, List.getD_eq_getElem?_getD, h]
theorem idL_succ (n : Nat) : idL (n + 1) = idL n ++ [(n : Int) + 1] := by simp [idL, List.range_succ]
theorem CnP_at {z n i : Nat} {Lw : Bytes} (h : i < n) : CnP z Lw n ((i : Int) + 1) = some (some (pgB z Lw i)) := by
  unfold CnP
  rw [if_pos (by omega), show ((i : Int) + 1 - 1).toNat = i by omega]
theorem CnP_succ (z n : Nat) (Lw : Bytes) (x : Option (Option Bytes)) : updC (updC (CnP z Lw n) ((n : Int) + 1) x) ((n : Int) + 1) (some (some (pgB z Lw n))) = CnP z Lw (n + 1) := by
  funext k
  unfold updC CnP
  by_cases hk : k = (n : Int) + 1
  · rw [if_pos hk, hk, if_pos (by omega), show ((n : Int) + 1 - 1).toNat = n by omega]
  · rw [if_neg hk, if_neg hk]
    by_cases h : 1 ≤ k ∧ k ≤ (n : Int)
    · rw [if_pos h, if_pos (by omega)]
    · rw [if_neg h, if_neg (by omega)]
theorem pgB_2 {z i : Nat} {Lw : Bytes} (hz : 16 ≤ z) (hi : i < 256) : secP (pgB z Lw i) 0 2 = [b8 (at8 Lw i), b8 i] := by
  unfold secP pgB setB
  simp
/-- All pages are in the sink. -/
def AllPut (t : PSt ShS) : Prop := ∀ i x, t.pm i = some x → x.put = true
section
variable {S : Nat} {w0 w w' : World} {d : PD} {t t' : PSt ShS} {C : Cn} {R : Prop} {k z j n : Nat}
theorem AllPut.ev (h : AllPut t) (he : Ev shP z j none9 t t') : AllPut t' ∧ t'.s.L.length = t.s.L.length := by
  refine ⟨fun i x hx => ?_, he.keep h⟩
  cases hy : t.pm i with
  | none => rw [he.no i id hy] at hx; cases hx
  | some y =>
    obtain ⟨x', e1, _, _, _, e5, _⟩ := he.pg i y id hy
    rw [e1] at hx
    cases hx
    exact (e5 (h i y hy)).1
/-- The first n pages are in the sink. -/
def PutTo (t : PSt ShS) (n : Nat) : Prop := ∀ (i : Int) x, i ≤ n → t.pm i = some x → x.put = true
theorem PutTo.ev (h : PutTo t n) (he : Ev shP z j none9 t t') : PutTo t' n := fun i x hi hx => by
  cases hy : t.pm i with
  | none => rw [he.no i id hy] at hx; cases hx
  | some y =>
    obtain ⟨x', e1, _, _, _, e5, _⟩ := he.pg i y id hy
    rw [e1] at hx
    cases hx
    exact (e5 (h i y hi hy)).1
theorem PutTo.all (h : PutTo t n) (hv : Vw S w0 w d t C R k) (hn : t.nx = n + 1) : AllPut t := fun i x hx => by
  obtain ⟨g1, g2, g3⟩ := hv.inv.ids i x hx
  refine h i x ?_ hx
  have : i ≠ t.nx := fun e => by have := g3 e; rw [hv.hole] at this; cases this
  omega
/-- The shelf's rows. -/
theorem Vw.rows (h : Vw S w0 w d t C R k) : ∃ Ar cr, w.cell? ⟨S, 0, none⟩ = some (.slice Ar t.s.L.length cr) := by
  obtain ⟨rv, vs, ov, h1, h2, _⟩ := h.at_.at_
  have hl := h1.len
  rw [← hl]
  rcases h1.row.2 with ⟨rfl, h0⟩ | ⟨g, cap, cur, rfl, _⟩
  · exact ⟨_, _, by rw [h0]; exact h1.c0⟩
  · exact ⟨_, _, h1.c0⟩
theorem Vw.ltS (h : Vw S w0 w d t C R k) : S < w.heap.size := by
  obtain ⟨Ar, cr, e⟩ := h.rows
  exact lt_of_cell e
end
end Go.Proofs.Ytmipngefpedfpaa
