/- A pager: Write. -/
import Derived.Test.YtmipngefpedfpaaPiZ
import Derived.Laws.CopyOwn
namespace Go.Proofs.Ytmipngefpedfpaa
open Go.RowKit Go.Maps
set_option linter.unusedVariables false
set_option linter.unusedSimpArgs false

/-- Bytes b are laid over L, from off on. -/
def setB (L : Bytes) (off : Nat) (b : Bytes) : Bytes := L.take off ++ (b ++ L.drop (off + b.length))
theorem setB_len {L : Bytes} {off : Nat} {b : Bytes} (h : off + b.length ≤ L.length) : (setB L off b).length = L.length := by simp [setB]; omega
theorem setB_same {L : Bytes} {off : Nat} {b : Bytes} (h : off + b.length ≤ L.length) (he : secP L off b.length = b) : setB L off b = L := by
  unfold setB secP at *
  conv => rhs; rw [← List.take_append_drop off L, ← List.take_append_drop b.length (L.drop off), he, List.drop_drop]
theorem at8_setB {L : Bytes} {off : Nat} {b : Bytes} (h : off + b.length ≤ L.length) (k : Nat) (hk : k < L.length) : at8 (setB L off b) k = if off ≤ k ∧ k < off + b.length then at8 b (k - off) else at8 L k := by
  unfold at8 setB
  rw [List.getD_eq_getElem?_getD, List.getD_eq_getElem?_getD, List.getD_eq_getElem?_getD]
  by_cases h1 : k < off
  · rw [if_neg (by omega), List.getElem?_append_left (by simp; omega), List.getElem?_take, if_pos h1]
  · rw [List.getElem?_append_right (by simp; omega)]
    have e : (L.take off).length = off := by simp; omega
    rw [e]
    by_cases h2 : k < off + b.length
    · rw [if_pos ⟨by omega, h2⟩, List.getElem?_append_left (by omega)]
    · rw [if_neg (by omega), List.getElem?_append_right (by omega), List.getElem?_drop]
      rw [show off + b.length + (k - off - b.length) = k by omega]
/-- copy, onto bytes that are known whole. -/
theorem wpList_copy_by {ops : Array Oper} {rest : List Oper} {o : Oper} {a : Act} {w : World} {Q : Exit → Act → World → Prop} (hgd : o.guard = none) (dd s : Operand)
    (ho : o.op = .call { callee := .builtin .copy, args := #[dd, s], argTypes := #[22, 22] }) {z B c off m n dCap sCap : Nat} {L b : Bytes} {dp sp : Option Addr} (hd : a.eval dd = .slice dp n dCap) (hs : a.eval s = .slice sp m sCap)
    (hby : ByAt w z B c L) (hz : 16 ≤ z) (hS : SBy w sp m b) (hfit : off + m ≤ z) (hn : n = z - off) (hdp : 0 < m → dp = some ⟨B, off, none⟩)
    (h : ∀ w', ByAt w' z B c (setB L off b) → Off (· = B) w w' → wpList Try.prog ops Q rest (a.put o.dst (.int .i64 (m : Nat))) w') : wpList Try.prog ops Q (o :: rest) a w := by
  have hsz : (Try.prog.info? 5).map (·.size) = some 1 := by
    obtain ⟨i, hi, _, h1, _⟩ := info_parts byte_info
    simp [hi, h1]
  have hbl := hS.1
  rcases Nat.eq_zero_or_pos m with h0 | hp
  · subst h0
    have hb : b = [] := by simpa using hbl
    subst hb
    have hsame : setB L off [] = L := by simp [setB]
    refine wpList_copy_nothing hgd dd s 22 22 ho 5 Try.underlying22 hsz dp sp n dCap 0 sCap hd hs (by exact Nat.zero_min n) ?_
    rw [hsame] at h
    exact h w hby (Off.refl _ _)
  · obtain ⟨b1, o1, rfl, hb1, hc1⟩ := hS.2 hp
    rw [hdp hp] at hd
    obtain ⟨cur, t, hrow, hcur⟩ := hby.row
    have hlen : (b.map bv).length = m := by simp [hbl]
    refine wpList_copy_own hgd dd s 22 22 ho 5 Try.underlying22 hsz B off n dCap ⟨b1, o1, none⟩ m sCap hd hs cur t hrow (b.map bv) ?_ (fun j v hj => ?_) (by rw [hlen]; omega) (fun v hv => ?_) ?_
    · rw [hlen]
      show m = min m n
      omega
    · have hj' : j < b.length := by
        rcases Nat.lt_or_ge j b.length with h | h
        · exact h
        · rw [List.getElem?_eq_none (by simpa using h)] at hj; cases hj
      rw [show (⟨b1, o1, none⟩ : Addr).add j = ⟨b1, o1 + j, none⟩ by unfold Addr.add; split <;> simp_all, hc1 j (by omega), at8_get hj']
      simp [hj'] at hj
      rw [← hj]
      rfl
    · obtain ⟨x, _, rfl⟩ := List.mem_map.1 hv
      simp [bv, Value.oneCell']
    · rw [hlen]
      have hBl := (Array.getElem?_eq_some_iff.1 hrow).1
      have hnew := setRow_heap w B cur (cur.toList.take off ++ (b.map bv ++ cur.toList.drop (off + m))).toArray t (0, 0) hrow
      have hcs : (cur.toList.take off ++ (b.map bv ++ cur.toList.drop (off + m))).length = cur.size := by simp [hbl]; omega
      refine h _ ⟨?_, hby.cap, ⟨?_, fun _ => ⟨B, 0, rfl, ?_, fun k hk => ?_⟩⟩, fun k => ?_, _, t, hnew, ?_⟩ ⟨rfl, rfl, rfl, by simp [World.setRow], fun k hk hne => setRow_other w B k _ hne⟩
      · rw [setB_len (by rw [hby.len]; omega), hby.len]
      · rw [setB_len (by rw [hby.len]; omega), hby.len]
      · exact (Array.getElem?_eq_some_iff.1 hnew).1
      · obtain ⟨b2, o2, e2, _, hc2⟩ := hby.sby.2 (by omega)
        cases e2
        have h2 := hc2 k hk
        rw [Nat.zero_add] at h2 ⊢
        rw [cell_of_row _ _ _ _ _ _ hrow] at h2
        rw [cell_of_row _ _ _ _ _ _ hnew, at8_setB (by rw [hby.len]; omega) k (by rw [hby.len]; exact hk), List.getElem?_toArray]
        by_cases h1 : k < off
        · rw [if_neg (by omega), List.getElem?_append_left (by simp; omega), List.getElem?_take, if_pos h1, Array.getElem?_toList]
          exact h2
        · rw [List.getElem?_append_right (by simp; omega)]
          have e : (cur.toList.take off).length = off := by simp; omega
          rw [e]
          by_cases h3 : k < off + b.length
          · rw [if_pos ⟨by omega, h3⟩, List.getElem?_append_left (by simp; omega), List.getElem?_map]
            have hk3 : k - off < b.length := by omega
            rw [List.getElem?_eq_getElem hk3, at8_get hk3]
            rfl
          · rw [if_neg (by omega), List.getElem?_append_right (by simp; omega), List.getElem?_drop, List.length_map, hbl]
            rw [show off + m + (k - off - m) = k by omega, Array.getElem?_toList]
            exact h2
      · unfold World.frozen?
        rw [hnew]
        simp
      · have : (cur.toList.take off ++ (b.map bv ++ cur.toList.drop (off + m))).toArray.size = cur.size := by rw [List.size_toArray]; exact hcs
        omega
end Go.Proofs.Ytmipngefpedfpaa
