/- The shelf of almanaclaw11: Put, NewShelf; the sink. -/
import Derived.Test.YtgkdggidgaifhaaZa
namespace Go.Proofs.Ytgkdggidgaifhaa
open Go.RowKit
set_option linter.unusedVariables false
set_option linter.unusedSimpArgs false

theorem by_info : (Try.prog.info? 38).map (fun i => (i.zero, i.size, i.bytes)) = some (some (.slice none 0 0), 1, 24) := by kernel_rfl
theorem run_appR {w : World} {rv : Value} {vs : List Value} {g : Nat} {A : Option Addr} {n c : Nat} (hown : w.ownsRow 0 38 1 rv vs.length vs) (hc : w.cell? ⟨g, 0, none⟩ = some (.slice A n c)) (hlen : vs.length ≤ 2147483647) (ty : TypeId) :
    ∃ v' w', (Builtin.append_ #[61, 61] ty #[rv, .slice (some ⟨g, 0, none⟩) 1 1]).run Try.prog w = .ok v' w' ∧ w'.ownsRow 0 38 1 v' (vs ++ [Value.slice A n c]).length (vs ++ [Value.slice A n c]) ∧ w.grownBy w' rv.ownBlock ∧ (v'.ownBlock = rv.ownBlock ∨ v'.ownBlock = some w.heap.size) := by
  obtain ⟨i0, hi, hz0, hz1, hz2⟩ := info_parts by_info
  obtain ⟨v', w', hr, ho, hg, _, hat⟩ := run_append_own_at (P := Try.prog) w 0 61 ty 38 i0 _ 1 24 Try.underlying61 hi hz0 hz1 hz2 rfl (by omega) rv vs.length vs hown ⟨g, 0, none⟩ 1 1 [.slice A n c]
    rfl (fun j u hj => by
      have e : ∀ j, (⟨g, 0, none⟩ : Addr).add j = ⟨g, j, none⟩ := fun j => by unfold Addr.add; split <;> simp_all
      rw [e]
      match j, hj with
      | 0, hj => simp at hj; rw [hc, hj]) (fun u hu => by
      simp only [List.mem_singleton] at hu
      subst hu
      simp [Value.oneCell']) (by unfold maxLen; omega) (by omega) (Nat.zero_le _)
  refine ⟨v', w', hr, ?_, hg, hat⟩
  rw [List.length_append]
  exact ho
theorem step_appR {ops : Array Oper} {o : Oper} {a : Act} {w : World} {K : Act → World → Prop} {Q : Exit → Act → World → Prop} {E : Prop} (hgd : o.guard = none) (sl x : Operand)
    (ho : o.op = .call { callee := .builtin .append, args := #[sl, x], argTypes := #[61, 61] }) (rv : Value) (vs : List Value) (g : Nat) (A : Option Addr) (n c : Nat) (hs : a.eval sl = rv) (hown : w.ownsRow 0 38 1 rv vs.length vs) (hx : a.eval x = .slice (some ⟨g, 0, none⟩) 1 1)
    (hc : w.cell? ⟨g, 0, none⟩ = some (.slice A n c)) (hlen : vs.length ≤ 2147483647)
    (h : ∀ v' w', w'.ownsRow 0 38 1 v' (vs ++ [Value.slice A n c]).length (vs ++ [Value.slice A n c]) → w.grownBy w' rv.ownBlock → (v'.ownBlock = rv.ownBlock ∨ v'.ownBlock = some w.heap.size) → (∃ A2 n2 c2, v' = .slice A2 n2 c2) → K (a.put o.dst v') w') :
    if Region.wanted o (yielded ops a.tmps) = true then Oper.wp Try.prog o a w K Q else E := by
  have hw : Region.wanted o (yielded ops a.tmps) = true := by simp [Region.wanted, hgd]
  rw [if_pos hw]
  obtain ⟨v', w', hr, h1, h2, h3⟩ := run_appR hown hc hlen o.type
  unfold Oper.wp execOp
  simp only [ho, resolve, invoke, builtin, Sem.run_bind, Sem.run_pure, Result.andThen_ok, List.map_toArray, List.map_cons, List.map_nil, hs, hx, hr]
  refine h v' w' h1 h2 h3 ?_
  rcases h1.2 with ⟨rfl, _⟩ | ⟨g, cap, cur, rfl, _⟩
  · exact ⟨_, _, _, rfl⟩
  · exact ⟨_, _, _, rfl⟩
theorem ShIn.setFull {w : World} {S : Nat} {rv ov : Value} {vs : List Value} {s : ShS} (h : ShIn w S rv vs ov s) (x : Int) (hx : x < 9223372036854775808) : ShIn (w.setCell ⟨S, 3, none⟩ (.int .i64 x)) S rv vs ov { s with full := x } := by
  have ho : Off (· = S) w (w.setCell ⟨S, 3, none⟩ (.int .i64 x)) := (Off.refl (· = S) w).setCell (p := ⟨S, 3, none⟩) rfl _
  have oc : ∀ k, k ≠ 3 → (w.setCell ⟨S, 3, none⟩ (.int .i64 x)).cell? ⟨S, k, none⟩ = w.cell? ⟨S, k, none⟩ := fun k hk => World.cell?_setCell_other _ _ _ _ (fun e => by injection e with _ e2; omega)
  exact ⟨(oc 0 (by omega)).trans h.c0, (oc 1 (by omega)).trans h.c1, (oc 2 (by omega)).trans h.c2, World.cell?_setCell_same _ _ _ h.c3, (oc 4 (by omega)).trans h.c4, fun k => (World.frozen?_setCell _ _ _ _).trans (h.fr k),
    row_off h.row ho (fun g hg e => h.neR (by rw [hg, e])), h.len, fun i v b e1 e2 => (h.it i v b e1 e2).offP ho ((h.neI v (List.mem_of_getElem? e1)).mono fun b hb => hb.1), h.ot.offP ho (h.neO.mono fun b hb => hb.1), h.neR, h.neI, h.neO, ⟨h.sz.1, h.sz.2.1, h.sz.2.2.1, hx⟩, fun k hk => (oc k (by omega)).trans (h.big k hk)⟩
/-- One more. -/
theorem ShIn.put {V w2 w4 : World} {S : Nat} {rv ov rv' : Value} {vs : List Value} {s : ShS} {b : Bytes} {A : Option Addr} {n c : Nat} {t : TypeId} (h : ShIn V S rv vs ov s) (hr : shK.Rdy s 1) (hbl : b.length ≤ 5000) (hf : FrB V w2 (.slice A n c) b)
    (hrow : w4.ownsRow 0 38 1 rv' (vs ++ [Value.slice A n c]).length (vs ++ [Value.slice A n c])) (hg : (w2.alloc (.cells #[.slice A n c] t)).grownBy w4 rv.ownBlock) (hat : rv'.ownBlock = rv.ownBlock ∨ rv'.ownBlock = some (w2.alloc (.cells #[.slice A n c] t)).heap.size) :
    ShIn (w4.setCell ⟨S, 0, none⟩ rv') S rv' (vs ++ [Value.slice A n c]) ov { s with L := s.L ++ [b] } ∧ Off (fun k => k = S ∨ rv.ownBlock = some k) V (w4.setCell ⟨S, 0, none⟩ rv') ∧ (∀ g, rv'.ownBlock = some g → rv.ownBlock = some g ∨ V.heap.size ≤ g) ∧ VIn (fun k => V.heap.size ≤ k) (.slice A n c) ∧ SlB (w4.setCell ⟨S, 0, none⟩ rv') (.slice A n c) b := by
  have hlS := h.lt
  have hb2 := hf.bel
  have s2 := hb2.size
  have hal : Below w2.heap.size w2 (w2.alloc (.cells #[.slice A n c] t)) := (Below.refl _ _).alloc (Nat.le_refl _) _
  have o3 : Off (fun k => rv.ownBlock = some k) V w4 := ((Off.of_below hb2).step hal).trans (grown_off hg)
  have hrb := World.ownsRow.lt h.row
  have hrS : rv'.ownBlock ≠ some S := by
    rcases hat with e | e
    · rw [e]; exact h.neR
    · rw [e]; simp; omega
  have o4 : Off (fun k => k = S ∨ rv.ownBlock = some k) V (w4.setCell ⟨S, 0, none⟩ rv') := (o3.mono fun _ e => Or.inr e).trans ((Off.refl _ w4).setCell (p := ⟨S, 0, none⟩) (.inl rfl) _)
  have oc : ∀ k, k ≠ 0 → (w4.setCell ⟨S, 0, none⟩ rv').cell? ⟨S, k, none⟩ = V.cell? ⟨S, k, none⟩ := fun k hk => (World.cell?_setCell_other _ _ _ _ (fun e => by injection e with _ e2; omega)).trans (o3.cell (p := ⟨S, k, none⟩) hlS h.neR)
  have hsl := hf.slA
  have hv2 : SlB w2 (.slice A n c) b := hsl.1.slB
  have hvin := hv2.inl
  have hvV : VIn (fun k => V.heap.size ≤ k) (.slice A n c) := fun b o n c e _ => hsl.2 b o n c e
  have hv4 : SlB (w4.setCell ⟨S, 0, none⟩ rv') (.slice A n c) b := by
    refine ((hv2.up hal).offP (grown_off hg) fun b o n c e h0 e2 => ?_).offP ((Off.refl (· = S) w4).setCell (p := ⟨S, 0, none⟩) rfl _) fun b o n c e h0 e2 => ?_
    · have := hvV b o n c e h0
      have := (hrb b e2).2
      omega
    · have := hvV b o n c e h0
      omega
  refine ⟨⟨World.cell?_setCell_same _ _ _ ((o3.cell (p := ⟨S, 0, none⟩) hlS h.neR).trans h.c0), (oc 1 (by omega)).trans h.c1, (oc 2 (by omega)).trans h.c2, (oc 3 (by omega)).trans h.c3, (oc 4 (by omega)).trans h.c4, fun k => (World.frozen?_setCell _ _ _ _).trans ((o3.frozen (p := ⟨S, k, none⟩) hlS h.neR).trans (h.fr k)),
    row_off hrow ((Off.refl (· = S) w4).setCell (p := ⟨S, 0, none⟩) rfl _) (fun g hg e => hrS (by rw [hg, e])), by simp [h.len], fun i v bb e1 e2 => ?_, h.ot.offP o4 (h.neO.mono fun k hk e => e.elim hk.1 hk.2), hrS, fun v hv => ?_, ?_, ⟨?_, ?_, h.sz.2.2⟩, fun k hk => (oc k (by omega)).trans (h.big k hk)⟩, o4, fun g hgg => ?_, hvV, hv4⟩
  · rw [List.getElem?_append] at e1 e2
    split at e1
    · rename_i hi
      rw [if_pos (by rw [← h.len]; exact hi)] at e2
      exact (h.it i v bb e1 e2).offP o4 ((h.neI v (List.mem_of_getElem? e1)).mono fun k hk e => e.elim hk.1 hk.2)
    · rename_i hi
      rw [if_neg (by rw [← h.len]; exact hi), ← h.len] at e2
      have : i - vs.length = 0 := by
        rcases Nat.eq_zero_or_pos (i - vs.length) with h0 | h0
        · exact h0
        · rw [List.getElem?_eq_none (by simp; omega)] at e1; cases e1
      rw [this] at e1 e2
      simp at e1 e2
      subst e1 e2
      exact hv4
  · rcases List.mem_append.1 hv with hv | hv
    · intro k o n' c' e h0
      obtain ⟨k1, k2⟩ := h.neI v hv k o n' c' e h0
      refine ⟨k1, ?_⟩
      rcases hat with e | e
      · rw [e]; exact k2
      · rw [e]
        obtain ⟨i, hi, hie⟩ := List.getElem_of_mem hv
        have hL : i < s.L.length := by rw [← h.len]; exact hi
        have := (h.it i v _ (by rw [List.getElem?_eq_getElem hi, hie]) (List.getElem?_eq_getElem hL)).inl k o n' c' (by assumption) h0
        simp
        omega
    · rw [List.mem_singleton.1 hv]
      intro k o n' c' e h0
      have k1 := hvV k o n' c' e h0
      have k2 := hvin k o n' c' e h0
      refine ⟨by omega, ?_⟩
      rcases hat with e | e
      · rw [e]
        intro e2
        have := (hrb k e2).2
        omega
      · rw [e]
        simp
        omega
  · intro k o n' c' e h0
    obtain ⟨k1, k2⟩ := h.neO k o n' c' e h0
    refine ⟨k1, ?_⟩
    rcases hat with e | e
    · rw [e]; exact k2
    · rw [e]
      have := h.ot.inl k o n' c' (by assumption) h0
      simp
      omega
  · have := hr.1
    simp
    omega
  · intro x hx
    rcases List.mem_append.1 hx with hx | hx
    · exact h.sz.2.1 x hx
    · rw [List.mem_singleton.1 hx]; omega
  · rcases hat with e | e
    · rw [e] at hgg; exact .inl hgg
    · rw [e] at hgg
      simp at hgg
      omega
theorem shPut_no {S : Nat} {w w' : World} {O : Nat → Prop} {s : ShS} {b : Bytes} (h0 : s.full = 0) (h1 : ShAt S w' O s) (h2 : Off O w w') : PuPost (ShAt S) shK w O s b (.returned (.tuple #[.agg #[.int .i64 0, .int .i64 0], .int .i64 7])) w' := by
  have e : shK.put s b = (s, (0, 0), 7) := by simp only [shK]; rw [if_pos h0]
  unfold PuPost
  rw [e]
  exact ⟨O, rfl, h1, h2, fun k e => .inl e⟩
theorem shPut_yes {S : Nat} {w V V5 W : World} {O : Nat → Prop} {s : ShS} {b : Bytes} {rv rv' ov : Value} {vs : List Value} {f' : Int} {nv : Nat} {x : Value} (h0 : ¬ s.full = 0) (hf : f' = if 0 < s.full then s.full - 1 else s.full) (hnv : nv = b.length) (hlen : vs.length = s.L.length) (hof : Off (· = S) w V) (hVs : w.heap.size < V.heap.size)
    (hi : ShIn V5 S rv' (vs ++ [x]) ov { s with L := s.L ++ [b], full := f' }) (ho : Off (fun k => k = S ∨ rv.ownBlock = some k) V V5) (hrv : ∀ g, rv'.ownBlock = some g → rv.ownBlock = some g ∨ V.heap.size ≤ g) (hx : VIn (fun k => V.heap.size ≤ k) x) {V4 : World} (_ : SlB V4 x b)
    (hW : Off (· = w.heap.size) V5 W) (hS : O S) (h3 : ∀ g, rv.ownBlock = some g → O g) (h4 : ∀ v ∈ vs, VIn O v) (h5 : VIn O ov) (h6 : ∀ k, O k → k < w.heap.size) :
    PuPost (ShAt S) shK w O s b (.returned (.tuple #[.agg #[.int .i64 ((vs.length : Int) + 1), .int .i64 (13 + (nv : Int))], .int .i64 0])) W := by
  have e : shK.put s b = ({ s with L := s.L ++ [b], full := f' }, ((vs.length : Int) + 1, 13 + (nv : Int)), 0) := by
    simp only [shK]
    rw [if_neg h0, hf, hlen, hnv]
  unfold PuPost
  rw [e]
  have s1 := hof.size
  have s2 := ho.size
  have s3 := hW.size
  have hrl := World.ownsRow.lt hi.row
  have nS : S ≠ w.heap.size := by have := h6 _ hS; omega
  have hx5 : VIn (fun k => k < V5.heap.size) x := by
    obtain ⟨i, hi2⟩ : ∃ i, (vs ++ [x])[i]? = some x := ⟨vs.length, by simp⟩
    have hi3 : (s.L ++ [b])[i]? ≠ none := by
      intro h
      have h7 := (List.getElem?_eq_some_iff.1 hi2).1
      rw [List.getElem?_eq_none_iff] at h
      simp at h h7
      omega
    obtain ⟨bb, hbb⟩ := Option.ne_none_iff_exists'.1 hi3
    exact (hi.it i x bb hi2 hbb).inl
  have hrO : ∀ g, rv'.ownBlock = some g → (O g ∨ (V.heap.size ≤ g ∧ g < W.heap.size)) ∧ g ≠ w.heap.size := fun g hg => by
    have h7 := (hrl g hg).2
    rcases hrv g hg with e | e
    · have h8 := h3 g e
      have := h6 g h8
      exact ⟨.inl h8, by omega⟩
    · exact ⟨.inr ⟨e, by omega⟩, by omega⟩
  have hxO : VIn (fun g => (O g ∨ (V.heap.size ≤ g ∧ g < W.heap.size)) ∧ g ≠ w.heap.size) x := fun k o n c e h0 => by
    have h7 := hx k o n c e h0
    have h8 := hx5 k o n c e h0
    exact ⟨.inr ⟨h7, by omega⟩, by omega⟩
  have hOO : ∀ g, O g → (O g ∨ (V.heap.size ≤ g ∧ g < W.heap.size)) ∧ g ≠ w.heap.size := fun g hg => ⟨.inl hg, by have := h6 g hg; omega⟩
  have hvO : ∀ v ∈ vs ++ [x], VIn (fun g => (O g ∨ (V.heap.size ≤ g ∧ g < W.heap.size)) ∧ g ≠ w.heap.size) v := fun v hv => by
    rcases List.mem_append.1 hv with hv | hv
    · exact (h4 v hv).mono hOO
    · rw [List.mem_singleton.1 hv]; exact hxO
  refine ⟨fun k => O k ∨ (V.heap.size ≤ k ∧ k < W.heap.size), rfl, ⟨rv', vs ++ [x], ov, hi.off hW nS (fun g hg => (hrO g hg).2) (fun v hv => (hvO v hv).mono fun b hb => hb.2) (h5.mono fun b hb => (hOO b hb).2), .inl hS, fun g hg => (hrO g hg).1, fun v hv => (hvO v hv).mono fun b hb => hb.1, h5.mono fun b hb => .inl hb, fun k hk => hk.elim (fun e => by have := h6 k e; omega) (fun e => e.2)⟩, ?_, fun k hk => hk.imp id (fun e => by omega)⟩
  exact ((hof.mono fun k e => by rw [e]; exact hS).trans (ho.mono fun k e => e.elim (fun e => by rw [e]; exact hS) (h3 k))).late hW fun i hi e => by omega
set_option maxRecDepth 100000 in
set_option maxHeartbeats 4000000 in
theorem shPut_any {S : Nat} {w : World} {O : Nat → Prop} {s : ShS} {v : Value} {b : Bytes} (h : ShAt S w O s) (hr : shK.Rdy s 1) (hv : SlA w v b) (hbl : b.length ≤ 5000) : Calls Try.prog 109 #[.pointer (some ⟨S, 0, none⟩), v] w (PuPost (ShAt S) shK w O s b) := by
  obtain ⟨rv, vs, ov, h1, h2, h3, h4, h5, h6⟩ := h
  obtain ⟨Av, nv, cv, rfl, hcv, hsv, hav⟩ := hv
  obtain ⟨Ar, cr, hrv⟩ : ∃ Ar cr, rv = .slice Ar vs.length cr := by
    rcases h1.row.2 with ⟨rfl, h0⟩ | ⟨g, cap, cur, rfl, _⟩
    · exact ⟨_, _, by rw [h0]⟩
    · exact ⟨_, _, rfl⟩
  have hnv := hsv.1
  have HI := Lib.hid h1
  have HS := Lib.hid h2
  have H3 := Lib.hid h3
  have H4 := Lib.hid h4
  have H5 := Lib.hid h5
  have H6 := Lib.hid h6
  have HSV := Lib.hid hsv
  have q3 := h1.c3
  have f3 := h1.fr 3
  have lS := h1.lt
  clear h1 h2 h3 h4 h5 h6 hsv hav
  go_enter Try.func109, Try.ntmps109
  by_cases h0 : s.full = 0
  · have hb : (s.full == 0) = true := by simp [h0]
    have H0 := Lib.hid h0
    clear h0
    go_wp2
    have hbx := (BoxA.new w 30 (0, 0)).set (0, 0)
    refine bodyPost_ret (results_addr rfl _ _ _ _ _ rfl (Box0.new w _).1.1 (Box0.new w _).1.2) rfl ?_
    have ho : Off O w (w.alloc (.cells #[.int .i64 0, .int .i64 0] 30)) := (Off.refl _ _).alloc _
    exact shPut_no H0.out (ShAt.off ⟨rv, vs, ov, HI.out, HS.out, H3.out, H4.out, H5.out, H6.out⟩ (P := fun _ => False) ((Off.refl _ _).alloc _) (fun _ => False.elim)) ho
  · have hb : (s.full == 0) = false := by simp [h0]
    have H0 := Lib.hid h0
    obtain ⟨f', hf'⟩ : ∃ f', f' = if 0 < s.full then s.full - 1 else s.full := ⟨_, rfl⟩
    have HF := Lib.hid hf'
    clear h0 hf'
    have hfl := hr.2.2.2
    by_cases hp : 0 < s.full
    case' pos =>
      have hw1 : IntKind.i64.wrap (s.full - 1) = s.full - 1 := IntWalk.i64_in _ (by omega)
    case' neg => skip
    all_goals
      go_upto_region 5 with (fail)
      refine wp_forget (fun V => ShIn V S rv vs ov { s with full := f' } ∧ BoxA V w.heap.size (0, 0) ∧ Off (· = S) w V) ?_ ?_
      · first
          | exact ⟨by rw [HF.out, if_neg hp]; exact HI.out.up ((Below.refl _ _).alloc (Nat.le_refl _) _), BoxA.new w _ (0, 0), (Off.refl _ _).alloc _⟩
          | exact ⟨by rw [HF.out, if_pos hp]; exact (HI.out.setFull (s.full - 1) (by omega)).up ((Below.refl _ _).alloc (Nat.le_refl _) _), by have := BoxA.new (w.setCell ⟨S, 3, none⟩ (.int .i64 (s.full - 1))) 30 (0, 0); rw [show (w.setCell ⟨S, 3, none⟩ (.int .i64 (s.full - 1))).heap.size = w.heap.size by simp] at this; exact this, ((Off.refl (· = S) w).setCell (p := ⟨S, 3, none⟩) rfl _).alloc _⟩
      rintro V ⟨hi, hbx, hof⟩
      have HIV := Lib.hid hi
      have HBX := Lib.hid hbx
      have HOF := Lib.hid hof
      have HVS : Hid (SBy V Av nv b) := Lib.hid (by
        have hn0 := HI.out.noBy (v := .slice Av nv cv) (L := b) ⟨_, _, _, rfl, hcv, HSV.out⟩
        obtain ⟨A5, n5, c5, e5, _, h5⟩ := SlB.offP (v := .slice Av nv cv) (L := b) ⟨_, _, _, rfl, hcv, HSV.out⟩ hof hn0
        cases e5
        exact h5)
      have hvl : vs.length ≤ 2147483647 := by have := hr.1; have := hi.len; simp only at this; omega
      have q0 := hi.c0
      have f0 := hi.fr 0
      rw [hrv] at q0
      have lS2 := hi.lt
      have HRV := Lib.hid hrv
      clear hi hbx hof q3 f3 hrv
      go_region_law (first
        | (refine step_appF (by rfl) _ _ (by rfl) V _ [] b (by rfl) (FrB.lit V).drew _ _ _ (by rfl) (HVS.out.up (((Below.refl _ _).alloc (Nat.le_refl _) _).drew)) (by simp; omega) nv (by simp; omega) ?_; intro A2 c2 w2 hf2; have HF2 := Lib.hid hf2; have q2 := (hf2.bel.cell (p := ⟨S, 0, none⟩) lS2).trans q0; have l2 := Nat.lt_of_lt_of_le lS2 hf2.bel.size; clear hf2)
        | (refine step_appR (by rfl) _ _ (by rfl) rv vs w2.heap.size A2 nv c2 (by rw [HRV.out]; rfl) (row_off ((HIV.out.up HF2.out.bel).row) (S := fun _ => False) (Off.of_below ((Below.refl _ _).alloc (Nat.le_refl _) _)) (fun _ _ => id)) (by rfl) (by rw [cell_of_row _ _ _ _ _ _ (heap_alloc_new w2 _)]; rfl) hvl ?_; intro v4 w4 hrow hg hat ⟨A4, n4, c4, e4⟩; subst e4; have HROW := Lib.hid hrow; have HGR := Lib.hid hg; have HAT := Lib.hid hat; have q5 := ((grown_off hg).cell (p := ⟨S, 0, none⟩) (by simp; omega) HIV.out.neR).trans ((((Below.refl w2.heap.size w2).alloc (Nat.le_refl _) _).cell (p := ⟨S, 0, none⟩) l2).trans q2); have f5 := ((grown_off hg).frozen (p := ⟨S, 0, none⟩) (by simp; omega) HIV.out.neR).trans ((((Below.refl w2.heap.size w2).alloc (Nat.le_refl _) _).frozen (p := ⟨S, 0, none⟩) l2).trans ((HF2.out.bel.frozen (p := ⟨S, 0, none⟩) lS2).trans f0)); clear hrow hg hat))
      all_goals
        go_upto_region 6 with (fail)
        have hput := HIV.out.put (rv' := .slice A4 n4 c4) (A := A2) (n := nv) (c := c2) ⟨hr.1, hr.2.1, hr.2.2.1, HIV.out.sz.2.2.2⟩ hbl HF2.out HROW.out HGR.out HAT.out
        have hn4 : n4 = vs.length + 1 := by
          rcases HROW.out.2 with ⟨e, h0⟩ | ⟨g, cap, cur, e, _⟩
          · simp at h0
          · cases e; simp
        refine wp_forget (fun W => ShIn W S (.slice A4 n4 c4) (vs ++ [Value.slice A2 nv c2]) ov { s with L := s.L ++ [b], full := f' } ∧ Off (fun k => k = S ∨ rv.ownBlock = some k) V W) ⟨hput.1, hput.2.1⟩ ?_
        rintro V5 ⟨hi5, ho5⟩
        have HI5 := Lib.hid hi5
        have HO5 := Lib.hid ho5
        have HPT := Lib.hid hput.2.2
        have hbx5 := HBX.out.off ho5 (fun e => e.elim (fun e => by omega) (fun e => by have := (World.ownsRow.lt HIV.out.row _ e).2; have := H3.out _ e; have := H6.out _ this; omega))
        have HBX5 := Lib.hid hbx5
        have p0 := hi5.c0
        have b0 := hbx5.1
        have b1 := hbx5.2.1
        have g0 := hbx5.2.2 0
        have g1 := hbx5.2.2 1
        have lS5 := hi5.lt
        have e4 : (n4 : Int) = (vs.length : Int) + 1 := by omega
        clear hput hi5 ho5 hbx5 q0 q2 q5 f0 f5 hn4 HF2 HROW HGR HAT
        go_wp2
        have hfin := HBX5.out.set ((vs.length : Int) + 1, 13 + (nv : Int))
        refine bodyPost_ret (results_addr rfl _ _ _ _ _ rfl hfin.1.1 hfin.1.2.1) rfl ?_
        exact shPut_yes H0.out HF.out (by rw [← hnv]) HIV.out.len HOF.out HBX.out.lt HI5.out HO5.out HPT.out.1 HPT.out.2.1 HPT.out.2.2 hfin.2 HS.out H3.out H4.out H5.out H6.out
end Go.Proofs.Ytgkdggidgaifhaa
