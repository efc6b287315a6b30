/- lz.greedy: its loop's state. -/
import Derived.Test.YtlmgihnnphmmhaaMI
import Derived.Deep.RegionLaw
import Derived.Deep.CutBlock
namespace Go.Proofs.Ytlmgihnnphmmhaa
open Go.RowKit Go.Shelf
set_option linter.unusedVariables false
set_option linter.unusedSimpArgs false
attribute [local go_sem] Oper.semAt_some

def atOf (w : World) (pa : Nat) : Nat := match w.cell? ⟨pa, 0, none⟩ with
  | some (.int _ k) => k.toNat
  | _ => 0
theorem atOf_eq {w : World} {pa k : Nat} (h : w.cell? ⟨pa, 0, none⟩ = some (.int .i64 (k : Nat))) : atOf w pa = k := by
  unfold atOf
  rw [h]
  simp
/-- What holds ahead of a round. -/
structure GSt (w wr : World) (A : Option Addr) (n c : Nat) (b : Bytes) (at_ from_ : Nat) (N : List Nat) (Ao : Option Addr) (no co : Nat) (out : Bytes) (Bs : Nat → Prop) (Ds : List Nat) : Prop where
  g : GInv w wr w.heap.size (w.heap.size + 3) (w.heap.size + 4) (w.heap.size + 2) A n c b at_ N Ao no co out Bs Ds
  ft : from_ ≤ at_
  tl : at_ ≤ b.length
  nl : ∀ x ∈ N, x < at_
  nn : N.length ≤ at_
  ol : out.length ≤ 1 + 5 * from_
  eq : greedyB b = greedyGo b at_ from_ N out
def GI (w : World) (A : Option Addr) (n c : Nat) (b : Bytes) (a : Act) (wr : World) : Prop :=
  ∃ (at_ from_ : Nat) (N : List Nat) (Ao : Option Addr) (no co : Nat) (out : Bytes) (Bs : Nat → Prop) (Ds : List Nat) (u8 u9 u10 u11 u12 u13 u14 u18 u19 u20 u21 u22 u23 u24 u25 u26 u27 u28 u29 u30 u31 u32 u33 u34 u35 u36 u37 u38 u39 u40 u41 u42 u43 u44 u45 u46 u47 u48 u49 u50 u51 u52 u53 u54 u55 u56 u57 u58 u59 u60 u61 u62 u63 u64 u65 u66 u67 u68 u69 u70 u71 u72 u73 u74 u75 u76 u77 u78 u79 u80 : Value), GSt w wr A n c b at_ from_ N Ao no co out Bs Ds ∧
    a = { tmps := #[.slice A n c, .pointer (some ⟨w.heap.size, 0, none⟩), .slice none 0 0, .slice Ao no co, .pointer (some ⟨w.heap.size + 3, 0, none⟩), .int .i64 (from_ : Nat), .pointer (some ⟨w.heap.size + 4, 0, none⟩), .func (.func 94) #[] #[.pointer (some ⟨w.heap.size, 0, none⟩), .pointer (some ⟨w.heap.size + 3, 0, none⟩)], u8, u9, u10, u11, u12, u13, u14, .slice (some ⟨w.heap.size + 1, 0, none⟩) 1 1, .map (some (w.heap.size + 2)), .func (.func 94) #[] #[.pointer (some ⟨w.heap.size, 0, none⟩), .pointer (some ⟨w.heap.size + 3, 0, none⟩)], u18, u19, u20, u21, u22, u23, u24, u25, u26, u27, u28, u29, u30, u31, u32, u33, u34, u35, u36, u37, u38, u39, u40, u41, u42, u43, u44, u45, u46, u47, u48, u49, u50, u51, u52, u53, u54, u55, u56, u57, u58, u59, u60, u61, u62, u63, u64, u65, u66, u67, u68, u69, u70, u71, u72, u73, u74, u75, u76, u77, u78, u79, u80, undef, undef, undef, undef, undef], defers := dfs Ds }

set_option maxRecDepth 100000 in
theorem GI.round {w : World} {A : Option Addr} {n c : Nat} {b : Bytes} {F : Act → World → Prop} (H : ∀ (wr : World) (at_ from_ : Nat) (N : List Nat) (Ao : Option Addr) (no co : Nat) (out : Bytes) (Bs : Nat → Prop) (Ds : List Nat) (u8 u9 u10 u11 u12 u13 u14 u18 u19 u20 u21 u22 u23 u24 u25 u26 u27 u28 u29 u30 u31 u32 u33 u34 u35 u36 u37 u38 u39 u40 u41 u42 u43 u44 u45 u46 u47 u48 u49 u50 u51 u52 u53 u54 u55 u56 u57 u58 u59 u60 u61 u62 u63 u64 u65 u66 u67 u68 u69 u70 u71 u72 u73 u74 u75 u76 u77 u78 u79 u80 : Value), GSt w wr A n c b at_ from_ N Ao no co out Bs Ds → F { tmps := #[.slice A n c, .pointer (some ⟨w.heap.size, 0, none⟩), .slice none 0 0, .slice Ao no co, .pointer (some ⟨w.heap.size + 3, 0, none⟩), .int .i64 (from_ : Nat), .pointer (some ⟨w.heap.size + 4, 0, none⟩), .func (.func 94) #[] #[.pointer (some ⟨w.heap.size, 0, none⟩), .pointer (some ⟨w.heap.size + 3, 0, none⟩)], u8, u9, u10, u11, u12, u13, u14, .slice (some ⟨w.heap.size + 1, 0, none⟩) 1 1, .map (some (w.heap.size + 2)), .func (.func 94) #[] #[.pointer (some ⟨w.heap.size, 0, none⟩), .pointer (some ⟨w.heap.size + 3, 0, none⟩)], u18, u19, u20, u21, u22, u23, u24, u25, u26, u27, u28, u29, u30, u31, u32, u33, u34, u35, u36, u37, u38, u39, u40, u41, u42, u43, u44, u45, u46, u47, u48, u49, u50, u51, u52, u53, u54, u55, u56, u57, u58, u59, u60, u61, u62, u63, u64, u65, u66, u67, u68, u69, u70, u71, u72, u73, u74, u75, u76, u77, u78, u79, u80, undef, undef, undef, undef, undef], defers := dfs Ds } wr) : ∀ a wr, GI w A n c b a wr → F a wr := by
  rintro _ wr ⟨at_, from_, N, Ao, no, co, out, Bs, Ds, u8, u9, u10, u11, u12, u13, u14, u18, u19, u20, u21, u22, u23, u24, u25, u26, u27, u28, u29, u30, u31, u32, u33, u34, u35, u36, u37, u38, u39, u40, u41, u42, u43, u44, u45, u46, u47, u48, u49, u50, u51, u52, u53, u54, u55, u56, u57, u58, u59, u60, u61, u62, u63, u64, u65, u66, u67, u68, u69, u70, u71, u72, u73, u74, u75, u76, u77, u78, u79, u80, hg, rfl⟩
  exact H _ _ _ _ _ _ _ _ _ _ _ _ _ _ _ _ _ _ _ _ _ _ _ _ _ _ _ _ _ _ _ _ _ _ _ _ _ _ _ _ _ _ _ _ _ _ _ _ _ _ _ _ _ _ _ _ _ _ _ _ _ _ _ _ _ _ _ _ _ _ _ _ _ _ _ _ _ _ _ _ hg

end Go.Proofs.Ytlmgihnnphmmhaa
