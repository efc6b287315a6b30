/- SpacePlays returns true for every input whose bulk is at most the given bound: any shape, any number of pages in memory, any acts on any of the spaces, that fork and close, pages being evicted between: each answer is the model's; the pager has just the pages that the spaces have. -/
import Derived.Test.YtlhfjaagkgengaaGreatPA51
import Derived.JoinedCond
namespace Go.Proofs.YtlhfjaagkgengaaGreat
open Go.ChangeShapes Go.WideShapes Go.ChangeAt Go.RowKit Go.Joins Go.Deep
set_option linter.unusedVariables false
set_option linter.unusedSimpArgs false
set_option maxRecDepth 100000 in
theorem splays_lifted (os:Os) (started:os.Started) (H:Type) (enc:TypeId×Value→H) (F:Stop.Interp):
 ReturnsInHanded {} Tryz.checked os 5 .any ((Rows.OpenSpec.upto Rows.spacePlaysSpec).pre6 enc Tryz.prog Tryz.f5 Rows.spacePlaysUptoRow.domain false) (((Rows.OpenSpec.upto Rows.spacePlaysSpec).at F).post enc Tryz.prog Tryz.f5 false true false false):=by
 refine returnsInHanded_of_cond (C:=Tryz.checked) (s:=Rows.OpenSpec.upto Rows.spacePlaysSpec) (k:=Rows.uptoSmall) rfl own started (by kernel_rfl) Tryz.func5
  (OpenSpec.witness (enc:=enc) (C:=Tryz.checked) (s:=Rows.OpenSpec.upto Rows.spacePlaysSpec) (k:=Rows.uptoSmall) rfl false ⟨#[],#[.agg #[.int .i64 0,.int .i64 0,.int .i64 0,.int .i64 0,.int .i64 0,.int .i64 0,.int .i64 0,.int .i64 0,.int .i64 0],.int .i64 0,.slice none 0 0],[]⟩ 8 (by kernel_rfl) (by kernel_rfl) (by kernel_rfl)
   (x:=([.agg [.lit (.int .i64 0),.lit (.int .i64 0),.lit (.int .i64 0),.lit (.int .i64 0),.lit (.int .i64 0),.lit (.int .i64 0),.lit (.int .i64 0),.lit (.int .i64 0),.lit (.int .i64 0)],.lit (.int .i64 0),.nil],[],[])) (by kernel_rfl) rfl (by kernel_rfl)) ?_
 intro W base args ds gs before hval0 hW _ hk _
 have hval:∀(j:Nat) t v,Tryz.f5.params[j]? =some t→args[j]? =some v→Value.okWide Tryz.prog W .any base t v:=hval0
 have hW':=hW
 obtain ⟨p,q,hA0,hV,rfl,hfz,hnd⟩:=hW
 have hA:DataW.TrodAll enc Tryz.prog W 0 (fun _=>true) true Tryz.f5.params.toList args.toList ds p:=hA0
 rw [Tryz.params5] at hA hval
 have hAA:=hA
 obtain ⟨v0,vs0,d0,ds0,p0,q0,hargs,rfl,rfl,h0,r0⟩:=trodAll_cons hA
 obtain ⟨v1,vs1,d1,ds1,p1,q1,rfl,rfl,rfl,h1,r1⟩:=trodAll_cons r0
 obtain ⟨v2,vs2,d2,ds2,p2,q2,rfl,rfl,rfl,h2,r2⟩:=trodAll_cons r1
 obtain ⟨rfl,rfl,rfl⟩:=trodAll_nil r2
 obtain rfl:args=#[v0,v1,v2]:=by cases args;simp_all
 obtain ⟨rfl,rfl⟩:=trodVars_none hV
 obtain ⟨cf,rfl⟩:=open_cfgF (hval 0 23 v0 rfl rfl) h0
 obtain ⟨s1,rfl,_,_,wf1⟩:=open_int Tryz.underlying3 (hval 1 3 v1 rfl rfl) h1
 obtain ⟨A2,n2,c2,rfl⟩:=okWide_slice Tryz.underlying40 (hval 2 40 v2 rfl rfl)
 obtain ⟨L2,rfl,hn2,hL2,hi2,hb2⟩:=open_ac16 h2 (Nat.le_trans (bulk_part (by simp)) (bulk_bound hk))
 refine (plays16_any W hL2 hi2 (fun h=>by have:=sum_acs hb2;omega) hn2).mono fun e W' ⟨he,bel⟩=>?_
 subst he
 exact ⟨_,rfl,_,_,_,[],_,[],hW',trodAll_mk1 (shut_bool Tryz.underlying4 _),trodAll_below laidOut bel (by kernel_rfl) hAA,rfl,bel.frame _,fun h=>by cases h⟩
theorem splays_over:Rows.spacePlaysUptoRow.holds Tryz.pinned (Rows.OpenSpec.upto Rows.spacePlaysSpec):=
 OpenClaim.holds_of_cond 5 Tryz.f5 rfl rfl rfl rfl rfl rfl rfl ⟨rfl,rfl,rfl,rfl,rfl⟩ rfl rfl rfl rfl rfl (by kernel_rfl) Tryz.func5 (by kernel_rfl)
  (of_decide_eq_true (by kernel_rfl)) (by unfold Func.isWrapper;first|(rw [if_pos (by decide +kernel)];kernel_rfl)|(rw [if_neg (by decide +kernel)];exact ⟨rfl,rfl⟩))
  (fun os started H enc _ F=>splays_lifted os started H enc F)
theorem spacePlays_proved:Rows.SpacePlaysUptoSaid:=splays_over
#print axioms spacePlays_proved
end Go.Proofs.YtlhfjaagkgengaaGreat
