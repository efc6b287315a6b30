/- A space: regions change; pages are let go (facts). -/
import Derived.Test.YtlhfjaagkgengaaGreatVdZ
import Derived.Test.YtlhfjaagkgengaaGreatItdZ
namespace Go.Proofs.YtlhfjaagkgengaaGreat
open Go.RowKit Go.Maps
set_option linter.unusedVariables false
set_option linter.unusedSimpArgs false
section
variable {σ : Type} {K : SnkF σ} {M : Snk K} {P : PSnk K} {w w' w1 w2 w3 wr : World} {d : PD} {t t' t1 t2 t3 : PSt σ} {C C' C1 : Cu} {k k1 k2 : Nat} {D : SpD} {A : Option Addr} {cap n : Nat} {L : List Rg} {m m1 : Int → Option Int}
/-- Behind a change of regions. -/
def RsPost (M : Snk K) (P : PSnk K) (w : World) (d : PD) (t : PSt σ) (C : Cu) (k : Nat) (D : SpD) (A : Option Addr) (cap : Nat) (L : List Rg) (m : Int → Option Int) (n : Nat) (R : List Rg × Int) (e : Ending) (w' : World) : Prop :=
  e = .returned (.int .i64 R.2) ∧ Off (· = D.X) w w' ∧ ((R.2 = 0 ∧ ∃ A' cap', SS M P w' d t C k D A' cap' R.1 m n ∧ ∀ k, rgO A' R.1.length k → w.heap.size ≤ k) ∨ (R.2 ≠ 0 ∧ SS M P w' d t C k D A cap L m n))
theorem SS.turn (h : SS M P w d t C k D A cap L m n) {R : List Rg × Int} {e : Ending} (ht : TuPost w D A cap L m n R e w') (hR : R.2 = 0 → R.1.length ≤ 10000) : RsPost M P w d t C k D A cap L m n R e w' := by
  obtain ⟨he, ho, hc⟩ := ht
  refine ⟨he, ho, ?_⟩
  have hpv : Pv M P w' d t C k := h.pv.offL ho (fun b e => by rw [e]; exact h.sep _ (.inl rfl))
  rcases hc with ⟨h0, A', cap', hs, hg⟩ | ⟨h0, hs⟩
  · refine .inl ⟨h0, A', cap', ⟨hs, hpv, h.ok, h.q, h.z, fun q hq => ?_, h.has, hR h0⟩, hg⟩
    rcases hq with e | e | e
    · exact h.sep q (.inl e)
    · exact h.sep q (.inr (.inl e))
    · intro ho2
      have := hg q e
      have := h.pv.lt ho2
      omega
  · exact .inr ⟨h0, hs, hpv, h.ok, h.q, h.z, h.sep, h.has, h.len⟩
theorem fitF_len {D : SpD} (hD : D.Ok) {R : List Rg × Int} (h : (fitF D R).2 = 0) : (fitF D R).1.length ≤ 10000 := by
  have h7 := hD.b7
  unfold fitF at h ⊢
  split
  · simp
  · rename_i hn
    rw [if_neg hn] at h
    have : ¬ (D.rg : Int) < R.1.length := fun e => hn ⟨h, e⟩
    omega
theorem mappedF_len {D : SpD} (hD : D.Ok) {L : List Rg} {a j p : Int} (h : (mappedF D L a j p).2 = 0) : (mappedF D L a j p).1.length ≤ 10000 := by
  unfold mappedF at h ⊢
  split
  · simp
  · rename_i hn; rw [if_neg hn] at h; exact fitF_len hD h
theorem unmappedF_len {D : SpD} (hD : D.Ok) {L : List Rg} {a j : Int} (h : (unmappedF D L a j).2 = 0) : (unmappedF D L a j).1.length ≤ 10000 := by
  unfold unmappedF at h ⊢
  split
  · simp
  · rename_i hn; rw [if_neg hn] at h; exact fitF_len hD h
theorem protectedF_len {D : SpD} (hD : D.Ok) {L : List Rg} {a j p : Int} (h : (protectedF D L a j p).2 = 0) : (protectedF D L a j p).1.length ≤ 10000 := by
  unfold protectedF at h ⊢
  split
  · simp
  · rename_i hn; rw [if_neg hn] at h; exact fitF_len hD h
theorem ssMap_b (h : SS M P w d t C k D A cap L m n) (at_ j p : Int) (hd : pagesB D at_ j = true → rightB at_ (at_ + j) p = true → piecesF L at_ (at_ + j) = [] → RgDist (L ++ [⟨at_, at_ + j, p⟩])) :
    Calls Tryz.prog 16 #[.pointer (some ⟨D.X, 0, none⟩), .int .i64 at_, .int .i64 j, .int .i64 p] w (RsPost M P w d t C k D A cap L m n (mappedF D L at_ j p)) :=
  (spMap_b h.sp h.ok h.len at_ j p hd).mono fun e w' ht => h.turn ht (mappedF_len h.ok)
theorem ssProt_b (h : SS M P w d t C k D A cap L m n) (at_ j p : Int) (hd : pagesB D at_ j = true → rightB at_ (at_ + j) p = true → allF L at_ (at_ + j) 0 = true → RgDist (cutR L at_ (at_ + j) ++ [⟨at_, at_ + j, p⟩])) :
    Calls Tryz.prog 118 #[.pointer (some ⟨D.X, 0, none⟩), .int .i64 at_, .int .i64 j, .int .i64 p] w (RsPost M P w d t C k D A cap L m n (protectedF D L at_ j p)) :=
  (spProt_b h.sp h.ok h.len at_ j p hd).mono fun e w' ht => h.turn ht (protectedF_len h.ok)
/-! ### pages are let go -/
open Classical in
noncomputable def loM (m : Int → Option Int) (dn : Int → Prop) : Int → Option Int := fun i => if dn i then none else m i
open Classical in
noncomputable def loC (C : Cu) (m : Int → Option Int) (dn : Int → Prop) : Cu := fun id => if ∃ k, dn k ∧ m k = some id then decU (C id) else C id
variable {dn dn' : Int → Prop}
theorem loM_none (m : Int → Option Int) : loM m (fun _ => False) = m := by funext i; unfold loM; rw [if_neg id]
theorem loC_none (C : Cu) (m : Int → Option Int) : loC C m (fun _ => False) = C := by funext id; unfold loC; rw [if_neg (by rintro ⟨k, h, _⟩; exact h)]
theorem loC_congr {C : Cu} (h : ∀ k id, m k = some id → (dn k ↔ dn' k)) : loC C m dn = loC C m dn' := by
  funext id
  unfold loC
  by_cases c : ∃ k, dn k ∧ m k = some id
  · rw [if_pos c]
    obtain ⟨k, h1, h2⟩ := c
    rw [if_pos ⟨k, (h k id h2).1 h1, h2⟩]
  · rw [if_neg c, if_neg]
    rintro ⟨k, h1, h2⟩
    exact c ⟨k, (h k id h2).2 h1, h2⟩
theorem loM_congr (h : ∀ k id, m k = some id → (dn k ↔ dn' k)) : loM m dn = loM m dn' := by
  funext i
  unfold loM
  cases hm : m i with
  | none => simp
  | some id =>
    by_cases c : dn i
    · rw [if_pos c, if_pos ((h i id hm).1 c)]
    · rw [if_neg c, if_neg (fun e => c ((h i id hm).2 e))]
theorem lo_at (hinj : ∀ i j id, m i = some id → m j = some id → i = j) {q id : Int} (hm : m q = some id) (hd : ¬ dn q) : loC C m dn id = C id := by
  unfold loC
  rw [if_neg]
  rintro ⟨j, hj, hj2⟩
  rw [hinj j q id hj2 hm] at hj
  exact hd hj
theorem lo_step (hinj : ∀ i j id, m i = some id → m j = some id → i = j) {q id : Int} (hm : m q = some id) (hdn : ∀ i, dn' i ↔ dn i ∨ i = q) : loC C m dn' = updU (loC C m dn) id (decU (C id)) ∧ loM m dn' = updM (loM m dn) q none := by
  constructor
  · funext i
    by_cases h1 : i = id
    · rw [h1, updU_same]
      unfold loC
      rw [if_pos ⟨q, (hdn _).2 (.inr rfl), hm⟩]
    · rw [updU_ne _ _ h1]
      unfold loC
      by_cases c : ∃ j, dn j ∧ m j = some i
      · rw [if_pos c]
        obtain ⟨j, h2, h3⟩ := c
        rw [if_pos ⟨j, (hdn _).2 (.inl h2), h3⟩]
      · rw [if_neg c, if_neg]
        rintro ⟨j, h2, h3⟩
        rcases (hdn _).1 h2 with g | g
        · exact c ⟨j, g, h3⟩
        · rw [g, hm] at h3
          exact h1 (Option.some.inj h3).symm
  · funext i
    by_cases h1 : i = q
    · rw [h1, updM_same]
      unfold loM
      rw [if_pos ((hdn _).2 (.inr rfl))]
    · rw [updM_ne _ _ h1]
      unfold loM
      by_cases h2 : dn i
      · rw [if_pos h2, if_pos ((hdn _).2 (.inl h2))]
      · rw [if_neg h2, if_neg (fun g => by rcases (hdn _).1 g with g | g; exact h2 g; exact h1 g)]
/-- A space whose pages are let go. -/
structure LoI {σ : Type} {K : SnkF σ} (M : Snk K) (P : PSnk K) (w wr : World) (d : PD) (t t' : PSt σ) (C1 : Cu) (k : Nat) (D : SpD) (A : Option Addr) (cap : Nat) (L : List Rg) (m1 : Int → Option Int) (n1 : Nat) : Prop where
  sp : SpAt wr D A cap L m1 n1
  pv : Pv M P wr d t' C1 k
  sep : ∀ q, spO D A L.length q → ¬ Own d t' q
  nx : Nxs P (· = D.Mm) w wr d t t'
  e1 : t'.nx = t.nx
theorem LoI.off (h : LoI M P w w1 d t t1 C1 k D A cap L m1 n) {S : Nat → Prop} (ho : Off S w1 w2) (h1 : ∀ b, S b → ¬ Own d t1 b) (h2 : ∀ b, S b → ¬ spO D A L.length b) (h3 : ∀ b, S b → w.heap.size ≤ b) : LoI M P w w2 d t t1 C1 k D A cap L m1 n :=
  ⟨h.sp.off ho h2, h.pv.offL ho h1, h.sep, h.nx.offS ho fun b e => .inr (h3 b e), h.e1⟩
theorem lo_let (hq : D.Q = d.Q) (h : LoI M P w w1 d t t1 (loC C m dn) k D A cap L m1 n) (hinj : ∀ i j id, m i = some id → m j = some id → i = j) (hhas : ∀ i id, m i = some id → ∃ p, C id = some p) {q id : Int} (hm : m q = some id) (hd : ¬ dn q) (hdn : ∀ i, dn' i ↔ dn i ∨ i = q) (hu : ∀ b u, C id = some (b, u) → 0 ≤ u ∧ u ≤ 1000000) :
    Calls Tryz.prog 65 #[.pointer (some ⟨d.Q, 0, none⟩), .int .i64 id] w1 fun x w2 => x = .returned (.tuple #[]) ∧ ∃ t2, Nx P w1 w2 d t1 t2 ∧ LoI M P w w2 d t t2 (loC C m dn') k D A cap L m1 n := by
  obtain ⟨⟨b, u⟩, hp2⟩ := hhas _ _ hm
  have ha := lo_at (C := C) hinj hm hd
  refine (pv_let h.pv (ha.trans hp2) (hu b u hp2)).mono ?_
  rintro x w2 ⟨rfl, t2, hv2, hx2, e21, e22⟩
  rw [ha, ← (lo_step hinj hm hdn).1] at hv2
  exact ⟨rfl, t2, hx2, ⟨h.sp.off hx2.off (fun g e hg => h.sep g hg e), hv2, fun g hg => (hx2.keep (h.sp.lt hg) (h.sep g hg)).2, h.nx.trans hx2.nxs, e21.trans h.e1⟩⟩
end
end Go.Proofs.YtlhfjaagkgengaaGreat
