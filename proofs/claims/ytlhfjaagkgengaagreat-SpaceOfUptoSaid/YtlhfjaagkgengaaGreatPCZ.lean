/- SpaceOf returns true for every input whose bulk is at most the given bound: a space that is made of another's regions and slots is as that one; what is not right is refused. -/
import Derived.Test.YtlhfjaagkgengaaGreatPC50
import Derived.Test.YtlhfjaagkgengaaGreatPC51
import Derived.JoinedCond
namespace Go.Proofs.YtlhfjaagkgengaaGreat
set_option maxRecDepth 100000
open Go.ChangeShapes Go.WideShapes Go.ChangeAt Go.RowKit Go.Joins Go.Deep
set_option linter.unusedVariables false
set_option linter.unusedSimpArgs false
theorem sof_lifted (os:Os) (started:os.Started) (H:Type) (enc:TypeId×Value→H) (F:Stop.Interp):
 ReturnsInHanded {} Tryz.checked os 4 .any ((Rows.OpenSpec.upto Rows.spaceOfSpec).pre6 enc Tryz.prog Tryz.f4 Rows.spaceOfUptoRow.domain false) (((Rows.OpenSpec.upto Rows.spaceOfSpec).at F).post enc Tryz.prog Tryz.f4 false true false false):=by
 refine returnsInHanded_of_cond (C:=Tryz.checked) (s:=Rows.OpenSpec.upto Rows.spaceOfSpec) (k:=Rows.uptoSmall) rfl own started (by kernel_rfl) Tryz.func4
  (OpenSpec.witness (enc:=enc) (C:=Tryz.checked) (s:=Rows.OpenSpec.upto Rows.spaceOfSpec) (k:=Rows.uptoSmall) rfl false ⟨#[],#[.agg #[.int .i64 0,.int .i64 0,.int .i64 0,.int .i64 0,.int .i64 0,.int .i64 0,.int .i64 0,.int .i64 0,.int .i64 0],.slice none 0 0,.slice none 0 0,.slice none 0 0],[]⟩ 8 (by kernel_rfl) (by kernel_rfl) (by kernel_rfl)
   (x:=([.agg [.lit (.int .i64 0),.lit (.int .i64 0),.lit (.int .i64 0),.lit (.int .i64 0),.lit (.int .i64 0),.lit (.int .i64 0),.lit (.int .i64 0),.lit (.int .i64 0),.lit (.int .i64 0)],.nil,.nil,.nil],[],[])) (by kernel_rfl) rfl (by kernel_rfl)) ?_
 intro W base args ds gs before hval0 hW _ hk _
 have hval:∀(j:Nat) t v,Tryz.f4.params[j]? =some t→args[j]? =some v→Value.okWide Tryz.prog W .any base t v:=hval0
 have hW':=hW
 obtain ⟨p,q,hA0,hV,rfl,hfz,hnd⟩:=hW
 have hA:DataW.TrodAll enc Tryz.prog W 0 (fun _=>true) true Tryz.f4.params.toList args.toList ds p:=hA0
 rw [Tryz.params4] at hA hval
 have hAA:=hA
 obtain ⟨v0,vs0,d0,ds0,p0,q0,hargs,rfl,rfl,h0,r0⟩:=trodAll_cons hA
 obtain ⟨v1,vs1,d1,ds1,p1,q1,rfl,rfl,rfl,h1,r1⟩:=trodAll_cons r0
 obtain ⟨v2,vs2,d2,ds2,p2,q2,rfl,rfl,rfl,h2,r2⟩:=trodAll_cons r1
 obtain ⟨v3,vs3,d3,ds3,p3,q3,rfl,rfl,rfl,h3,r3⟩:=trodAll_cons r2
 obtain ⟨rfl,rfl,rfl⟩:=trodAll_nil r3
 obtain rfl:args=#[v0,v1,v2,v3]:=by cases args;simp_all
 obtain ⟨rfl,rfl⟩:=trodVars_none hV
 obtain ⟨cf,rfl⟩:=open_cfgF (hval 0 23 v0 rfl rfl) h0
 obtain ⟨A1,n1,c1,rfl⟩:=okWide_slice Tryz.underlying40 (hval 1 40 v1 rfl rfl)
 obtain ⟨L1,rfl,hn1,hL1,hi1,hb1⟩:=open_ac16 h1 (Nat.le_trans (bulk_part (by simp)) (bulk_bound hk))
 obtain ⟨A2,n2,c2,rfl⟩:=okWide_slice Tryz.underlying41 (hval 2 41 v2 rfl rfl)
 obtain ⟨L2,rfl,hn2,hL2⟩:=open_rgs h2 (Nat.le_trans (bulk_part (by simp)) (bulk_bound hk))
 obtain ⟨A3,n3,c3,rfl⟩:=okWide_slice Tryz.underlying37 (hval 3 37 v3 rfl rfl)
 obtain ⟨L3,rfl,hn3,hL3,hi3⟩:=open_sls h3 (Nat.le_trans (bulk_part (by simp)) (bulk_bound hk))
 refine (of16_any W hL1 hi1 (fun h=>by have:=sum_acs hb1;omega) hn1 hL2 hn2 hL3 hn3 hi3).mono fun e W' ⟨he,bel⟩=>?_
 subst he
 exact ⟨_,rfl,_,_,_,[],_,[],hW',trodAll_mk1 (shut_bool Tryz.underlying4 _),trodAll_below laidOut bel (by kernel_rfl) hAA,rfl,bel.frame _,fun h=>by cases h⟩
theorem sof_over:Rows.spaceOfUptoRow.holds Tryz.pinned (Rows.OpenSpec.upto Rows.spaceOfSpec):=
 OpenClaim.holds_of_cond 4 Tryz.f4 rfl rfl rfl rfl rfl rfl rfl ⟨rfl,rfl,rfl,rfl,rfl⟩ rfl rfl rfl rfl rfl (by kernel_rfl) Tryz.func4 (by kernel_rfl)
  (of_decide_eq_true (by kernel_rfl)) (by unfold Func.isWrapper;first|(rw [if_pos (by decide +kernel)];kernel_rfl)|(rw [if_neg (by decide +kernel)];exact ⟨rfl,rfl⟩))
  (fun os started H enc _ F=>sof_lifted os started H enc F)
theorem spaceOf_proved:Rows.SpaceOfUptoSaid:=sof_over
#print axioms spaceOf_proved
end Go.Proofs.YtlhfjaagkgengaaGreat
