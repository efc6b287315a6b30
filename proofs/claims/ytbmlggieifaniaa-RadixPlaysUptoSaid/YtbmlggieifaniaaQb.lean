/- radix's laws: known. -/
import Derived.Test.YtbmlggieifaniaaQa
namespace Go.Proofs.Ytbmlggieifaniaa
open Go.RowKit
set_option linter.unusedVariables false
set_option linter.unusedSimpArgs false

/-- A tree over a shelf, begun in a law: all its blocks are the law's own. -/
structure ShL (W w : World) (S T : Nat) (O : Nat → Prop) (st : ShS × Int) : Prop where
  tr : TrAt (shM S) w T O st.1 st.2
  hO : ∀ k, O k → W.heap.size ≤ k
  hT : W.heap.size ≤ T
  inn : shP.In st.1
  bel : Below W.heap.size W w
section
variable {W w w' : World} {S T : Nat} {O O' : Nat → Prop} {st st' : ShS × Int}
theorem ShL.up (h : ShL W w S T O st) (hb : Below w.heap.size w w') : ShL W w' S T O st := ⟨h.tr.up hb, h.hO, h.hT, h.inn, h.bel.trans (hb.mono h.bel.size)⟩
theorem ShL.out (h : ShL W w S T O st) {v : Value} (hv : VIn (fun b => b < W.heap.size) v) : VIn (Out O T) v := hv.mono fun b hb => ⟨fun e => by have := h.hO b e; omega, fun e => by have := h.hT; omega⟩
theorem Off.belowW {P : Nat → Prop} (hb : Below W.heap.size W w) (ho : Off P w w') (hP : ∀ k, P k → W.heap.size ≤ k) : Below W.heap.size W w' := hb.trans (ho.below hP hb.size)
end
/-- Nothing that the law was given is changed. -/
structure SetOk (W w w' : World) (S T : Nat) (O O' : Nat → Prop) (st st' : ShS × Int) (n N : Nat) (G : Rdr → Int × Int → Prop) (r' : Int × Int) (e : Ending) : Prop where
  e : e = .returned (.tuple #[.agg #[.int .i64 r'.1, .int .i64 r'.2], .int .i64 0])
  l : ShL W w' S T O' st'
  off : Off (OT O T) w w'
  hO : ∀ k, O' k → O k ∨ w.heap.size ≤ k
  rdy : shK.Rdy st'.1 n
  aft : ∃ j, j ≤ N ∧ Aft shP j st st'
  full : st'.1.full < 0
  g : G (shRd st'.1.L) r'
section
variable {W w w' : World} {S T : Nat} {O : Nat → Prop} {st : ShS × Int} {n : Nat} {r : Int × Int} {m : Mp}
theorem rt_ok {N : Nat} {G : Rdr → Int × Int → Prop} {e : Ending} {O' : Nat → Prop} {st' : ShS × Int} {r' : Int × Int} {er : Int} (h : ShL W w S T O st) (hf : st.1.full < 0) (k : RtPost shP (shM S) w T O st N G (fun s' => shK.Rdy s' n) e w' O' st' r' er) : SetOk W w w' S T O O' st st' n N G r' e := by
  rcases k.r with ⟨h0, j, hj, ha, hg⟩ | ⟨h0, j, hj, ha, hz⟩
  · have hfull : st'.1.full < 0 := by have := ha.room; rw [if_pos (show shP.room st.1 < 0 from hf)] at this; rw [show st'.1.full = st.1.full from this]; exact hf
    have hO2 : ∀ k', O' k' → W.heap.size ≤ k' := fun k' hk => (k.hO k' hk).elim (h.hO k') (fun e => Nat.le_trans h.bel.size e)
    exact ⟨by rw [k.e, h0]; rfl, ⟨k.tr, hO2, h.hT, ha.inn, h.bel.trans (k.off.below (fun b hb => hb.elim (h.hO b) (fun e => e ▸ h.hT)) h.bel.size)⟩, k.off, k.hO, k.z, ⟨j, hj, ha⟩, hfull, hg⟩
  · exfalso
    have := ha.room
    rw [if_pos (show shP.room st.1 < 0 from hf)] at this
    have h2 : st.1.full = 0 := this.symm.trans hz
    omega
theorem shl_set (h : ShL W w S T O st) (hr : shK.Rdy st.1 (n + 7)) (hf : st.1.full < 0) (hm : TellsR (shRd st.1.L) r m) {key : Nat} (hk : key < 16777216) {v : Value} {L : Bytes} (hv : SlB w v L) (hL : L.length ≤ 256) (hvo : VIn (Out O T) v) :
    Calls Try.prog 12 #[.pointer (some ⟨T, 0, none⟩), .agg #[.int .i64 r.1, .int .i64 r.2], .int .i64 (key : Nat), v] w fun e w' => ∃ O' st' r', SetOk W w w' S T O O' st st' n 6 (fun rd' r' => Tells rd' 0 0 r' (upd m key (some L)) ∧ (m key = some L → r' = r)) r' e :=
  (set_law (M := shM S) shP shK_good h.tr h.inn hr hm hk hv hL hvo).mono fun e w' ⟨O', st', r', er, k⟩ => ⟨O', st', r', rt_ok h hf k⟩
theorem shl_del (h : ShL W w S T O st) (hr : shK.Rdy st.1 (n + 7)) (hf : st.1.full < 0) (hm : TellsR (shRd st.1.L) r m) {key : Nat} (hk : key < 16777216) :
    Calls Try.prog 14 #[.pointer (some ⟨T, 0, none⟩), .agg #[.int .i64 r.1, .int .i64 r.2], .int .i64 (key : Nat)] w fun e w' => ∃ O' st' r', SetOk W w w' S T O O' st st' n 7 (fun rd' r' => TellsR rd' r' (upd m key none) ∧ (m key = none → r' = r)) r' e :=
  (del_law (M := shM S) shP shK_good h.tr h.inn hr hm hk).mono fun e w' ⟨O', st', r', er, k⟩ => ⟨O', st', r', rt_ok h hf k⟩
/-- Reads alone have been made. -/
structure GetOk (W w w' : World) (S T : Nat) (O : Nat → Prop) (st : ShS × Int) (s' : ShS) : Prop where
  l : ShL W w' S T O (s', st.2)
  off : Off O w w'
  aft : Aft shP 0 st (s', st.2)
  rdy : ∀ n, shK.Rdy st.1 n → shK.Rdy s' n
theorem get_ok {s' : ShS} (h : ShL W w S T O st) (ht : TrAt (shM S) w' T O s' st.2) (ho : Off O w w') (ha : Aft shP 0 st (s', st.2)) (hr : ∀ n, shK.Rdy st.1 n → shK.Rdy s' n) : GetOk W w w' S T O st s' :=
  ⟨⟨ht, h.hO, h.hT, ha.inn, h.bel.trans (ho.below h.hO h.bel.size)⟩, ho, ha, hr⟩
def GlOk (W w : World) (S T : Nat) (O : Nat → Prop) (st : ShS × Int) (mk : Option Bytes) (e : Ending) (w' : World) : Prop :=
  ∃ v s', e = .returned (.tuple #[v, .bool mk.isSome, .int .i64 0]) ∧ GetOk W w w' S T O st s' ∧ SlB w' v (mk.getD []) ∧ VIn (Out O T) v
theorem shl_get (h : ShL W w S T O st) (hm : TellsR (shRd st.1.L) r m) {key : Nat} (hk : key < 16777216) :
    Calls Try.prog 18 #[.pointer (some ⟨T, 0, none⟩), .agg #[.int .i64 r.1, .int .i64 r.2], .int .i64 (key : Nat)] w (GlOk W w S T O st (m key)) :=
  (get_law (M := shM S) shP shK_good h.tr h.inn hm hk).mono fun e w' ⟨v, s', he, ht, ho, hs, hb, ha, hr⟩ => ⟨v, s', he, get_ok h ht ho ha hr, hs, fun b o n c e _ => h.tr.outOf (hb b o n c e)⟩
def ChOk (W w : World) (S T : Nat) (O : Nat → Prop) (st : ShS × Int) (n : Nat) (e : Ending) (w' : World) : Prop :=
  ∃ s', e = .returned (.tuple #[.int .i64 (n : Nat), .int .i64 0]) ∧ GetOk W w w' S T O st s'
theorem shl_check (h : ShL W w S T O st) (hr : shK.Rdy st.1 0) (hm : TellsR (shRd st.1.L) r m) {ps : Ps} (hp : Lst m ps) (hl : ps.length ≤ 149796) :
    Calls Try.prog 19 #[.pointer (some ⟨T, 0, none⟩), .agg #[.int .i64 r.1, .int .i64 r.2]] w (ChOk W w S T O st ps.length) := by
  obtain ⟨ps', h1, h2, h3⟩ := tells_list shP hm h.inn
  obtain rfl := hp.uniq h1
  obtain ⟨s', left', h4, h5⟩ := h3 chkF 0 hl
  have h6 := fun n => walkF_rdy (K := shK) shK_good (pairsC chkF) 7 (st.1, 1048576, 0) r 0 0 n
  refine (check_any (M := shM S) shK_good h.tr hr r).mono fun e w' ⟨he, ht, ho⟩ => ?_
  rw [h4] at he ht h6
  rw [foldU_chk] at he
  simp only at he
  rw [incN_small _ _ (by omega) (by omega)] at he
  exact ⟨s', by rw [he]; simp, get_ok h ht ho (h5.aft st.2) h6⟩
end
/-- The bytes of a literal of one byte. -/
theorem lit1 (w : World) (x : Int) (hx : 0 ≤ x ∧ x ≤ 255) : SlB (w.alloc (.cells #[.int .u8 x] 5 (1, 2))) (.slice (some ⟨w.heap.size, 0, none⟩) 1 1) [b8 x.toNat] := by
  refine ⟨_, _, _, rfl, Nat.le_refl _, rfl, fun _ => ⟨_, _, rfl, by simp, fun k hk => ?_⟩⟩
  obtain rfl : k = 0 := by omega
  rw [cell_of_row _ _ _ _ _ _ (heap_alloc_new w _)]
  have : (at8 [b8 x.toNat] 0 : Nat) = x.toNat := by
    show (b8 x.toNat).toNat = x.toNat
    exact b8_lt (by omega)
  rw [this]
  simp
  omega
end Go.Proofs.Ytbmlggieifaniaa
