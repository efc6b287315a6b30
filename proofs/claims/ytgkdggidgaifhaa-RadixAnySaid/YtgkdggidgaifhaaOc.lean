/- radix: what Get, Set, Delete and the walk do, plainly. -/
import Derived.Test.YtgkdggidgaifhaaOb
namespace Go.Proofs.Ytgkdggidgaifhaa
open Go.RowKit
set_option linter.unusedVariables false
set_option linter.unusedSimpArgs false

section
variable {σ : Type} (K : SnkF σ)
/-- Get: the state behind, the value, is there one, the error. -/
def lookF : Nat → σ → Int × Int → Nat → Nat → Nat → σ × Bytes × Bool × Int
  | 0, s, _, _, _, _ => (s, [], false, 0)
  | n + 1, s, r, l, q, key =>
    if r = (0, 0) then (s, [], false, 0) else
    match tgetF K s r l q with
    | (s1, none, e) => (s1, [], false, e)
    | (s1, some x, _) =>
      if x.level = 6 then (if x.key = key then (s1, x.val, true, 0) else (s1, [], false, 0))
      else if frontN key x.level ≠ x.prefix_ ∨ x.has (digN key x.level) = false then (s1, [], false, 0)
      else if x.level = 5 then (s1, x.vals (digN key 5), true, 0)
      else lookF n s1 (x.kids (digN key x.level)) (x.level + 1) (frontN key (x.level + 1)) key
def loneR (key : Nat) (v : Bytes) : RN := { rn0 6 with key := key, val := v }
def pair0 (l q i k : Nat) : RN := { rn0 l with prefix_ := q, has := upd (upd (fun _ => false) i true) k true }
def pairF (st : σ × Int) (r : Int × Int) (x : RN) (key : Nat) (v : Bytes) : (σ × Int) × (Int × Int) × Int :=
  if forkN x.some key = 5 then tputF K st { pair0 5 (frontN key 5) (digN x.some 5) (digN key 5) with vals := upd (upd (fun _ => []) (digN x.some 5) x.val) (digN key 5) v }
  else match tputF K st (loneR key v) with
    | (st1, leaf, e) => if e ≠ 0 then (st1, (0, 0), e) else
      tputF K st1 { pair0 (forkN x.some key) (frontN key (forkN x.some key)) (digN x.some (forkN x.some key)) (digN key (forkN x.some key)) with kids := upd (upd (fun _ => (0, 0)) (digN x.some (forkN x.some key)) r) (digN key (forkN x.some key)) leaf }
def setF : Nat → σ × Int → Int × Int → Nat → Nat → Nat → Bytes → (σ × Int) × (Int × Int) × Int
  | 0, st, _, _, _, _, _ => (st, (0, 0), 0)
  | n + 1, st, r, l, q, key, v =>
    if r = (0, 0) then tputF K st (loneR key v) else
    match tgetF K st.1 r l q with
    | (s1, none, e) => ((s1, st.2), (0, 0), e)
    | (s1, some x, _) =>
      if x.level = 6 ∧ x.key = key then (if x.val = v then ((s1, st.2), r, 0) else tputF K (s1, st.2) { x with val := v })
      else if x.level = 6 ∨ frontN key x.level ≠ x.prefix_ then pairF K (s1, st.2) r x key v
      else if x.level = 5 then
        (if x.has (digN key 5) = true ∧ x.vals (digN key 5) = v then ((s1, st.2), r, 0)
         else tputF K (s1, st.2) { x with has := upd x.has (digN key 5) true, vals := upd x.vals (digN key 5) v })
      else
        match setF n (s1, st.2) (if x.has (digN key x.level) then x.kids (digN key x.level) else (0, 0)) (x.level + 1) (frontN key (x.level + 1)) key v with
        | (st2, made, e) =>
          if e ≠ 0 ∨ (x.has (digN key x.level) = true ∧ made = x.kids (digN key x.level)) then (st2, r, e)
          else tputF K st2 { x with has := upd x.has (digN key x.level) true, kids := upd x.kids (digN key x.level) made }
def cutF : Nat → σ × Int → Int × Int → Nat → Nat → Nat → (σ × Int) × (Int × Int) × Int
  | 0, st, _, _, _, _ => (st, (0, 0), 0)
  | n + 1, st, r, l, q, key =>
    if r = (0, 0) then (st, r, 0) else
    match tgetF K st.1 r l q with
    | (s1, none, e) => ((s1, st.2), (0, 0), e)
    | (s1, some x, _) =>
      if x.level = 6 then (if x.key = key then ((s1, st.2), (0, 0), 0) else ((s1, st.2), r, 0))
      else if frontN key x.level ≠ x.prefix_ ∨ x.has (digN key x.level) = false then ((s1, st.2), r, 0)
      else if x.level = 5 then
        (if countN (upd x.has (digN key 5) false) 16 = 0 then ((s1, st.2), (0, 0), 0)
         else tputF K (s1, st.2) { x with has := upd x.has (digN key 5) false, vals := upd x.vals (digN key 5) [] })
      else
        match cutF n (s1, st.2) (x.kids (digN key x.level)) (x.level + 1) (frontN key (x.level + 1)) key with
        | (st2, kid, e) =>
          if e ≠ 0 ∨ kid = x.kids (digN key x.level) then (st2, r, e)
          else if countN (upd x.has (digN key x.level) (decide (kid ≠ (0, 0)))) 16 = 0 then (st2, (0, 0), 0)
          else if countN (upd x.has (digN key x.level) (decide (kid ≠ (0, 0)))) 16 = 1 then (st2, upd x.kids (digN key x.level) kid (firstN (upd x.has (digN key x.level) (decide (kid ≠ (0, 0)))) 16 0), 0)
          else tputF K st2 { x with has := upd x.has (digN key x.level) (decide (kid ≠ (0, 0))), kids := upd x.kids (digN key x.level) kid }
end
/-- The walk: the sink, what is left, what the function has gathered. -/
abbrev WkSt (σ α : Type) := σ × Int × α
section
variable {σ α : Type} (K : SnkF σ) (cb : α → Int × Int → RN → α × Bool)
def kidsF (W : WkSt σ α → Int × Int → Nat → Nat → WkSt σ α × Bool × Int) (x : RN) : Nat → Nat → WkSt σ α → WkSt σ α × Bool × Int
  | 0, _, st => (st, true, 0)
  | m + 1, i, st => if x.has i = false ∨ 5 ≤ x.level then kidsF W x m (i + 1) st else
    match W st (x.kids i) (x.level + 1) (x.prefix_ * 16 + i) with
    | (st', more, e) => if more then kidsF W x m (i + 1) st' else (st', false, e)
def walkF : Nat → WkSt σ α → Int × Int → Nat → Nat → WkSt σ α × Bool × Int
  | 0, st, _, _, _ => (st, true, 0)
  | n + 1, (s, left, a), r, l, q =>
    if r = (0, 0) then ((s, left, a), true, 0) else
    if left - 1 < 0 then ((s, left - 1, a), false, 20) else
    match tgetF K s r l q with
    | (s1, none, e) => ((s1, left - 1, a), false, e)
    | (s1, some x, _) => if (cb a r x).2 = false then ((s1, left - 1, (cb a r x).1), false, 0) else kidsF (walkF n) x 16 0 (s1, left - 1, (cb a r x).1)
end
section
variable {α : Type} (f : α → Nat → Bytes → α × Bool)
def pairsL (x : RN) : Nat → Nat → α → α × Bool
  | 0, _, a => (a, true)
  | m + 1, i, a => if x.has i = true ∧ x.level = 5 then (if (f a (x.prefix_ * 16 + i) (x.vals i)).2 then pairsL x m (i + 1) (f a (x.prefix_ * 16 + i) (x.vals i)).1 else ((f a (x.prefix_ * 16 + i) (x.vals i)).1, false)) else pairsL x m (i + 1) a
/-- What Pairs hands to the walk. -/
def pairsC (a : α) (r : Int × Int) (x : RN) : α × Bool := if x.level = 6 then f a x.key x.val else pairsL f x 16 0 a
end
theorem right_any (w : World) (key : Int) : Calls Try.prog 35 #[.int .i64 key] w fun e w' => e = .returned (.bool (decide (0 ≤ key ∧ key < 16777216))) ∧ w' = w := by
  by_cases h1 : 0 ≤ key
  · by_cases h2 : key < 16777216
    · go_enter Try.func35, Try.ntmps35
      go_wp2
      go_ret
      exact ⟨by simp [h1, h2], rfl⟩
    · go_enter Try.func35, Try.ntmps35
      go_wp2
      go_ret
      exact ⟨by simp [h1, h2], rfl⟩
  · go_enter Try.func35, Try.ntmps35
    go_wp2
    go_ret
    exact ⟨by simp; omega, rfl⟩
end Go.Proofs.Ytgkdggidgaifhaa
