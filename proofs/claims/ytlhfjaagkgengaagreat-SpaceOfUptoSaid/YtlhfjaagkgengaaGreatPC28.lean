/- A pager on a shelf; the shapes that the laws take. Spaces on one pager: a new one, a fork; how many pages a space has. -/
import Derived.Test.YtlhfjaagkgengaaGreatPC27
namespace Go.Proofs.YtlhfjaagkgengaaGreat
set_option maxHeartbeats 2000000
open Go.RowKit Go.Maps
set_option linter.unusedVariables false
set_option linter.unusedSimpArgs false
open Classical in
theorem small_any (w:World) (cf:Nat→Int):Calls Tryz.prog 13 #[cfgV cf] w fun e w'=>e=.returned (.bool (decide (GoodC cf∧cf 4≤512)))∧Below w.heap.size w w':=by
 have HN:Hid (∀V,Below w.heap.size w V→Calls Tryz.prog 56 #[cfgV cf] V fun e w1=>Below w.heap.size w w1∧Below V.heap.size V w1∧((¬GoodC cf∧e=.returned (.tuple #[.pointer none,.int .i64 1]))∨(GoodC cf∧∃X,e=.returned (.tuple #[.pointer (some ⟨X,0,none⟩),.int .i64 0])))):=hJ fun V hb=>(nmNew_any V cf).mono fun e w1 h=>by
  refine ⟨hb.trans (h.1.mono hb.size),h.1,h.2.imp id ?_⟩
  rintro ⟨hg,X,_,_,_,he,_⟩
  exact ⟨hg,X,he⟩
 have HR:Hid (∀V,Below w.heap.size w V→(decide (GoodC cf∧cf 4≤512)=false→(fun e w'=>e=Ending.returned (.bool (decide (GoodC cf∧cf 4≤512)))∧Below w.heap.size w w') (.returned (.bool false)) V)):=hJ fun V hb h=>⟨by rw [h],hb⟩
 generalize hp:(fun (e:Ending) (w':World)=>e=Ending.returned (.bool (decide (GoodC cf∧cf 4≤512)))∧Below w.heap.size w w')=Pq at *
 have HP:Hid (∀b V,Below w.heap.size w V→b=decide (GoodC cf∧cf 4≤512)→Pq (.returned (.bool b)) V):=hJ fun b V hb h=>by rw [←hp];exact ⟨by rw [h],hb⟩
 clear HR hp
 have HD:Hid (∀b:Bool,(GoodC cf→b=decide (cf 4≤512))→(¬GoodC cf→b=false)→b=decide (GoodC cf∧cf 4≤512)):=hJ fun b h1 h2=>by
  by_cases hg:GoodC cf
  · rw [h1 hg];by_cases c:cf 4≤512<;>simp [hg,c]
  · rw [h2 hg];simp [hg]
 unfold cfgV at *
 go_enter Tryz.func13,Tryz.ntmps13
 go_wp2_with (first|(go_at_call 56;(refine (HN.out _ (by first|(with_reducible exact jB.alloc jN _)|(with_reducible exact Below.refl _ _))).mono ?_);rintro e w1 ⟨hb1,hb2,h⟩;have HB1:=hJ hb1;try (obtain ⟨c0,c1,c2,c3,c4,c5,c6,c7,c8⟩:=cfg_cells hb2);clear hb1 hb2;rcases h with ⟨hg,rfl⟩|⟨hg,X,rfl⟩<;>(have HGC:=hJ hg;clear hg)))
 all_goals
  go_wp2
  show Pq (.returned (.bool _)) _
  exact HP.out _ _ HB1.out (HD.out _ (fun hg=>by first|exact absurd hg HGC.out|simp) (fun hg=>by first|exact absurd HGC.out hg|rfl))
def PoPost (w:World) (z held:Int) (e:Ending) (w':World):Prop:=
 ∃S d t,e=.returned (.pointer (some ⟨d.Q,0,none⟩))∧SW (shM S) shP w' d t (fun _=>none) 1990000 []∧(d.z:Int)=z∧(d.n:Int)=held∧(∀q,Own d t q→w.heap.size≤q)∧Below w.heap.size w w'∧shP.room t.s<0∧t.nx=1
theorem pv_new {w w1 w2:World} {z n:Nat} {d:PD} {t:PSt ShS} {e:Ending} (hs:ShNew w e w1) (hp:Pg0 (shM w.heap.size) shP w1 w2 z n (· =w.heap.size) sh0 d t):Pv (shM w.heap.size) shP w2 d t (fun _=>none) 1990000:=
 ⟨hp.at_,hp.inv,hp.hole,(fun i _=>by rw [hp.pm]),(fun i b u h=>by cases h),by rw [hp.s];exact sh0_rdy (by omega),by rw [hp.nx];omega,(fun i o h=>by cases h)⟩
theorem shNew_in2 {w w1:World} {e:Ending} (hs:ShNew w e w1):(shM w.heap.size).At w1 (· =w.heap.size) sh0∧shP.In sh0:=⟨hs.2.2.2,by show (-1:Int)<0;omega⟩
theorem po_new {w w0 w1 w2:World} {z n:Nat} {d:PD} {t:PSt ShS} {e:Ending} (hb:Below w.heap.size w w0) (hs:ShNew w0 e w1) (hp:Pg0 (shM w0.heap.size) shP w1 w2 z n (· =w0.heap.size) sh0 d t):PoPost w (z:Nat) (n:Nat) (.returned (.pointer (some ⟨d.Q,0,none⟩))) w2:=by
 have h1:=hs.2.1
 have h0:=hb.size
 have z1:=h1.size
 refine ⟨w0.heap.size,d,t,rfl,⟨pv_new hs hp,fun s hs=>(by cases hs),List.Pairwise.nil,UsOk.nil,fun s hs=>(by cases hs),Nat.zero_le _⟩,by rw [hp.z],by rw [hp.n],fun b hb=>?_,hb.trans ((h1.mono h0).trans (hp.bel.mono (by omega))),by rw [hp.s];show (-1:Int)<0;omega,hp.nx⟩
 rcases hb with e|e
 · have:=hp.own b e
   omega
 · rw [hp.O] at e
   have:b=w0.heap.size:=e
   omega
theorem pagerOf_any (w:World) (cf:Nat→Int) (held:Int) (h1:16≤cf 4∧cf 4≤4096) (h2:1≤held∧held≤4096):Calls Tryz.prog 14 #[cfgV cf,.int .i64 held] w (PoPost w (cf 4) held):=by
 have HPO:Hid (∀V0 V1 V2 e d t,Below w.heap.size w V0→ShNew V0 e V1→Pg0 (shM V0.heap.size) shP V1 V2 (cf 4).toNat held.toNat (· =V0.heap.size) sh0 d t→PoPost w (cf 4) held (.returned (.pointer (some ⟨d.Q,0,none⟩))) V2):=hJ fun V0 V1 V2 e d t hb hs hp=>by
  have:=po_new hb hs hp
  rw [show (((cf 4).toNat:Nat):Int)=cf 4 by omega,show ((held.toNat:Nat):Int)=held by omega] at this
  exact this
 have hcell:∀{V V':World} {B:Nat},Below B V V'→V.heap.size≤B→∀{a i:Nat} {v:Value},V.cell? ⟨a,i,none⟩=some v→V'.cell? ⟨a,i,none⟩=some v:=fun {V V' B} hb hB {a i v} h1=>((Off.of_below (S:=fun _=>False) (hb.mono hB)).cell (p:=⟨a,i,none⟩) (lt_of_cell h1) id).trans h1
 have HSH:Hid (∀V,Below w.heap.size w V→V.cell? ⟨w.heap.size,4,none⟩=some (.int .i64 (cf 4))→Calls Tryz.prog 58 #[] V fun e w1=>∃V0,e=.returned (.pointer (some ⟨V0.heap.size,0,none⟩))∧Below w.heap.size w V0∧ShNew V0 e w1∧w1.cell? ⟨w.heap.size,4,none⟩=some (.int .i64 (cf 4))):=
  hJ fun V hb hc=>(newShelf_any V).mono fun e w1 h=>⟨V,h.1,hb,h,hcell h.2.1 jN hc⟩
 have HPN:Hid (∀V0 V1 e0,Below w.heap.size w V0→ShNew V0 e0 V1→V1.cell? ⟨w.heap.size,4,none⟩=some (.int .i64 (cf 4))→Calls Tryz.prog 57 #[.int .i64 (cf 4),.int .i64 held,.iface 77 (.pointer (some ⟨V0.heap.size,0,none⟩))] V1 fun e w2=>
  ∃Q,e=.returned (.tuple #[.pointer (some ⟨Q,0,none⟩),.int .i64 0])∧PoPost w (cf 4) held (.returned (.pointer (some ⟨Q,0,none⟩))) w2∧w2.cell? ⟨w.heap.size,4,none⟩=some (.int .i64 (cf 4))):=
  hJ fun V0 V1 e0 hb hs hc=>(pgNew_any (M:=shM V0.heap.size) (P:=shP) (cf 4) held (shNew_in2 hs).1 (shNew_in2 hs).2).mono fun e w2 h=>by
   rcases h with ⟨_,_,hbad⟩|⟨d,t,rfl,_,hp⟩
   · omega
   · exact ⟨d.Q,rfl,HPO.out _ _ _ _ _ _ hb hs hp,hcell hp.bel jN hc⟩
 clear HPO hcell h1 h2
 have hc0:(w.alloc (.cells #[.int .i64 (cf 0),.int .i64 (cf 1),.int .i64 (cf 2),.int .i64 (cf 3),.int .i64 (cf 4),.int .i64 (cf 5),.int .i64 (cf 6),.int .i64 (cf 7),.int .i64 (cf 8)] 23)).cell? ⟨w.heap.size,4,none⟩=some (.int .i64 (cf 4)):=by
  rw [cell_of_row _ _ _ _ _ _ (heap_alloc_new w _)];rfl
 have HB0:Hid (Below w.heap.size w (w.alloc (.cells #[.int .i64 (cf 0),.int .i64 (cf 1),.int .i64 (cf 2),.int .i64 (cf 3),.int .i64 (cf 4),.int .i64 (cf 5),.int .i64 (cf 6),.int .i64 (cf 7),.int .i64 (cf 8)] 23))):=hJ (jB.alloc jN _)
 have KS:=hJ hc0
 clear hc0
 unfold cfgV
 go_enter Tryz.func14,Tryz.ntmps14
 go_wp2_with fail
 generalize w.alloc (.cells #[.int .i64 (cf 0),.int .i64 (cf 1),.int .i64 (cf 2),.int .i64 (cf 3),.int .i64 (cf 4),.int .i64 (cf 5),.int .i64 (cf 6),.int .i64 (cf 7),.int .i64 (cf 8)] 23)=wa at *
 have KSd:Hid (wa.drew.cell? ⟨w.heap.size,4,none⟩=some (.int .i64 (cf 4))):=hJ KS.out
 have HBd:Hid (Below w.heap.size w wa.drew):=hJ HB0.out.drew
 go_region_held3 (fun V=>V.cell? ⟨w.heap.size,4,none⟩=some (.int .i64 (cf 4))) (first|exact KS.out|go_keep)
  (first
   |(go_at_call 58;(with_reducible refine (HSH.out _ (by first|exact HB0.out|exact HBd.out) (by first|exact KS.out|exact KSd.out)).mono ?_);rintro e w1 ⟨V0,rfl,hb,hs,hc⟩;have HB1:=hJ hb;have HS1:=hJ hs;have KS:=hJ hc;clear hb hs hc)
   |(go_at_call 57;(with_reducible refine (HPN.out V0 w1 _ HB1.out HS1.out KS.out).mono ?_);rintro e w4 ⟨Q,rfl,hfk,hc⟩;have HP:=hJ hfk;have KS:=hJ hc;clear hfk hc))
 all_goals
  go_wp2
  first
   |exact HP.out
   |(go_ret;exact HP.out)
set_option maxHeartbeats 2000000
theorem ks_of {k:TypeId} {w:World} {b c:Nat} {m:Pm} (h:MapIs Tryz.prog k w b (spF m) c):∃ks:List Int,ks.Nodup∧(∀i,i∈ks ↔ (m i).isSome=true)∧ks.length=c:=by
 obtain ⟨es,clock,_,hst,hc,_,h1,h2⟩:=h
 have hint:∀x∈es.toList,∃i,x.key=.int .i64 i∧(m i).isSome=true:=fun x hx=>by
  have:=h1 x hx
  unfold spF at this
  cases hi:intOfV x.key with
  |none=>rw [hi] at this;cases this
  | some i=>
    rw [hi] at this
    simp only [Option.bind_some] at this
    refine ⟨i,intOfV_inv hi,?_⟩
    cases hm:m i with
    |none=>rw [hm] at this;cases this
    |some j=>rfl
 refine ⟨es.toList.map fun x=>(intOfV x.key).getD 0,?_,fun i=>?_,by rw [List.length_map];simpa using hc⟩
 · have hk:=hst.2.2
   rw [List.Nodup,List.pairwise_map] at hk ⊢
   refine (List.Pairwise.and_mem.1 hk).imp ?_
   rintro a b ⟨ha,hb,hab⟩ e
   obtain ⟨i,hi,_⟩:=hint a ha
   obtain ⟨j,hj,_⟩:=hint b hb
   rw [hi,hj] at e hab
   have e':i=j:=e
   rw [e'] at hab
   exact hab rfl
 · rw [List.mem_map]
   constructor
   · rintro ⟨x,hx,e⟩
     obtain ⟨j,hj,hs⟩:=hint x hx
     rw [hj] at e
     have e':j=i:=e
     rw [←e']
     exact hs
   · intro hs
     cases hm:m i with
     |none=>rw [hm] at hs;cases hs
     | some j=>
       obtain ⟨x,hx,e⟩:=h2 (.int .i64 i) (.int .i64 j) (by rw [spF_at,hm];rfl)
       exact ⟨x,hx,by rw [e];rfl⟩
theorem cnt_list {k:TypeId} {w:World} {b c:Nat} {m:Pm} (h:MapIs Tryz.prog k w b (spF m) c) {l:List Int} (hl:l.Nodup) (hd:∀i,i∈l ↔ (m i).isSome=true):c=l.length:=by
 obtain ⟨ks,h1,h2,h3⟩:=ks_of h
 rw [←h3]
 exact ((List.perm_ext_iff_of_nodup h1 hl).2 fun i=>by rw [h2,hd]).length_eq
section
variable {σ:Type} {K:SnkF σ} {M:Snk K} {P:PSnk K} {w w' w1 w2 w3:World} {d:PD} {t t' t1 t2:PSt σ} {C C' C1:Cu} {k k0 k1 k2:Nat} {l l' l1 l2:List Spc} {s s':Spc} {S:Nat→Prop}
theorem SW.more (h:SW M P w d t C k l) (hx:Nx P w w' d t t') (hs:SS M P w' d t' C' k s'.D s'.A s'.cap s'.L s'.m s'.n) (hu:UsOk C' (s'.m::l.map (·.m))) (hi:injM s'.m) (hw:∀q,s'.ow q→w.heap.size≤q) (hl:l.length<1000):
 SW M P w' d t' C' k (s'::l)∧SwN P w w' d t t' l (s'::l):=by
 refine ⟨⟨hs.pv,fun x hx2=>?_,List.pairwise_cons.2 ⟨fun x hx2 q hq e=>?_,h.dj⟩,hu,fun x hx2=>?_,by rw [List.length_cons];omega⟩,⟨hx.off.mono fun b hb=>.inl hb,?_,hx.rm⟩⟩
 · rcases List.mem_cons.1 hx2 with rfl|hx2
   · exact hs
   · exact (h.ss x hx2).pg hs.pv hx fun i id hm=>hu.at (jP (List.mem_map.2 ⟨x,hx2,rfl⟩)) hm
 · have:=(h.ss x hx2).sp.lt e
   have:=hw q hq
   omega
 · rcases List.mem_cons.1 hx2 with rfl|hx2
   · exact hi
   · exact h.inj x hx2
 · rintro q (hq|⟨x,hx2,hq⟩)
   · exact (hx.own q hq).imp .inl id
   · rcases List.mem_cons.1 hx2 with rfl|hx2
     · exact .inr (hw q hq)
     · exact .inl (.inr ⟨x,hx2,hq⟩)
theorem SW.add (h:SW M P w d t C k l) {cf:Nat→Int} {pg rg ps:Nat} (hD:(SpD.mk 0 0 d.Q cf pg rg ps).Ok) (hz:pg=d.z) (hl:l.length<1000) {e:Ending} (hn:NewSp w cf d.Q pg rg ps e w'):
 ∃X Mm,e=.returned (.pointer (some ⟨X,0,none⟩))∧SW M P w' d t C k (⟨⟨X,Mm,d.Q,cf,pg,rg,ps⟩,none,0,[],fun _=>none,0⟩::l)∧SwN P w w' d t t l (⟨⟨X,Mm,d.Q,cf,pg,rg,ps⟩,none,0,[],fun _=>none,0⟩::l)∧Below w.heap.size w w':=by
 obtain ⟨X,Mm,he,hs,hb,x1,x2⟩:=hn
 have hpv:=h.pv.up hb
 have hnew:∀q,spO ⟨X,Mm,d.Q,cf,pg,rg,ps⟩ none 0 q→w.heap.size≤q:=by
  rintro q (e|e|⟨e,_⟩)
  · have e':q=X:=e
    omega
  · have e':q=Mm:=e
    omega
  · omega
 have hss:SS M P w' d t C k ⟨X,Mm,d.Q,cf,pg,rg,ps⟩ none 0 [] (fun _=>none) 0:=⟨hs,hpv,⟨hD.e4,hD.e7,hD.e8,hD.b4,hD.b7,hD.b8⟩,rfl,hz,fun q hq ho=>by have:=h.pv.lt ho;have:=hnew q hq;omega,fun i id hm=>(by cases hm),Nat.zero_le _⟩
 obtain ⟨h1,h2⟩:=h.more (s':=⟨⟨X,Mm,d.Q,cf,pg,rg,ps⟩,none,0,[],fun _=>none,0⟩) (Nx.refl.up hb) hss h.us.new (fun i j id h1=>by cases h1) hnew hl
 exact ⟨X,Mm,he,h1,h2,hb⟩
def FkW (M:Snk K) (P:PSnk K) (w:World) (d:PD) (t:PSt σ) (C:Cu) (k:Nat) (s:Spc) (l:List Spc) (e:Ending) (w':World):Prop:=
 ∃ X Mm A' cap' t',e=.returned (.pointer (some ⟨X,0,none⟩))∧SW M P w' d t' (kpC C s.m) k (⟨⟨X,Mm,d.Q,s.D.cf,s.D.pg,s.D.rg,s.D.ps⟩,A',cap',s.L,s.m,s.n⟩::s::l)∧
   SwN P w w' d t t' (s::l) (⟨⟨X,Mm,d.Q,s.D.cf,s.D.pg,s.D.rg,s.D.ps⟩,A',cap',s.L,s.m,s.n⟩::s::l)∧t'.nx=t.nx∧(∀x∈s::l,x.mem (kpC C s.m)=x.mem C)
structure RgOk (s:Spc):Prop where
 right:rightL s.D.ps s.L=true
 len:s.L.length≤s.D.rg
 has:∀i id,s.m i=some id→findB s.L i=true
 rng:∀i id,s.m i=some id→0≤i∧i<s.D.ps
theorem SW.fork (h:SW M P w d t C k (s::l)) (hr:RgOk s) (hn:s.n≤100000) (hl:l.length<900):
 Calls Tryz.prog 32 #[.pointer (some ⟨s.D.X,0,none⟩)] w (FkW M P w d t C k s l):=by
 have g:=h.ss s jM
 have hi:=h.inj s jM
 have b8:=g.ok.b8
 refine (fork_b g hn hi (fun i id hm=>by have:=hr.rng i id hm;unfold i64R;omega) (fun i id b u hm hc=>by have:=h.use jM hm hc;omega) hr.right hr.len hr.has).mono ?_
 rintro e w' ⟨X,Mm,A',cap',t',rfl,hs,hx,hnx,hnew⟩
 obtain ⟨h1,h2⟩:=h.more (s':=⟨⟨X,Mm,d.Q,s.D.cf,s.D.pg,s.D.rg,s.D.ps⟩,A',cap',s.L,s.m,s.n⟩) hx hs (h.us.kp (List.mem_map.2 ⟨s,jM,rfl⟩)) hi hnew (by rw [List.length_cons];omega)
 refine ⟨X,Mm,A',cap',t',rfl,h1,h2,hnx,fun x hx2=>memF_same fun i id hm=>?_⟩
 obtain ⟨p,hp⟩:=h1.us.at (m:=x.m) (jP (List.mem_map.2 ⟨x,hx2,rfl⟩)) hm
 obtain ⟨u,hu⟩:=kp_bytes hp
 exact ⟨p,u,hp,hu⟩
theorem parts_le {z a n:Nat} (hz:0<z):(partsL z a n).length≤n:=by
 have key:∀(f a n:Nat),n≤f→(partsN z f a n).length≤n:=by
  intro f
  induction f with
  |zero=>intro a n h;simp [partsN]
  | succ f ih=>
    intro a n h
    have hm:=Nat.mod_lt a hz
    unfold partsN
    split
    · simp
    · have:=ih (a+min n (z-a%z)) (n-min n (z-a%z)) (by omega)
      rw [List.length_cons]
      omega
 exact key n a n jN
end
end Go.Proofs.YtlhfjaagkgengaaGreat
