/- A pager: Evict. A pager: New. A pager: Keep, Let, Shared, Has. region: Pieces. -/
import Derived.Test.YtlhfjaagkgengaaGreatPC11
import Derived.Test.YtlhfjaagkgengaaGreatPC03
import Derived.LoopIn
import Derived.Sort.CutIn
namespace Go.Proofs.YtlhfjaagkgengaaGreat
set_option maxRecDepth 100000
set_option maxHeartbeats 4000000
open Go.RowKit Go.Maps
set_option linter.unusedVariables false
set_option linter.unusedSimpArgs false
def EvPost {σ:Type} {K:SnkF σ} (M:Snk K) (P:PSnk K) (w:World) (d:PD) (t:PSt σ) (n:Int) (e:Ending) (w':World):Prop:=
 ∃(t':PSt σ) (k:Nat),e=.returned (.int .i64 (k:Nat))∧Stp M P w w' d t t'∧Ev P d.z (d.n+1) none9 t t'∧Num t t'∧cntF qUsed t'.F d.n+k=cntF qUsed t.F d.n∧((k:Int)≤n∨k=0)
structure EvAt {σ:Type} {K:SnkF σ} (M:Snk K) (P:PSnk K) (w:World) (d:PD) (t:PSt σ) (n:Int) (k:Nat) (wr:World) (t1:PSt σ):Prop where
 s:Stp M P w wr d t t1
 e:Ev P d.z k none9 t t1
 nu:Num t t1
 c:cntF qUsed t1.F d.n+k=cntF qUsed t.F d.n
 l:(k:Int)≤n∨k=0
section
variable {σ:Type} {K:SnkF σ} {M:Snk K} {P:PSnk K} {w w' w1 w2 w3 w4 w5:World} {d:PD} {t t' t1 t2:PSt σ} {id:Int} {x y:Pg} {j:Nat} {z k1 k2:Nat} {E:Int→Prop}
theorem vic_any (hi:PI P d t) (hh:t.h<d.n):(sw d.n (2*d.n+1) t.h t.F).1= -1∨∃r i:_,r<d.n∧t.g i=some r∧(sw d.n (2*d.n+1) t.h t.F).1=(r:Nat):=by
 rcases vic_cases hi.kv hh with ⟨h1,h2⟩|⟨r,h1,h2,h3⟩
 · exact .inl h2
 · obtain ⟨g1,g2⟩:=sw_form d.n (by omega) (2*d.n+1) t.h t.F hh
   rcases g2 with g2|⟨r',g2,g3,g4,g5⟩
   · exact .inl g2
   · rw [h3] at g2 g4
     simp at g2
     have hr:r=r':=by omega
     subst hr
     have hur:(t.F r).used=true:=by
      rw [←(g1 r).2.1,h3]
      simp [Fr.cand] at g4
      exact g4.1
     exact .inr ⟨r,_,h2,hi.kv.good.a r h2 hur,by rw [h3]⟩
theorem vic_pos (hi:PI P d t) {r:Nat} {i:Int} (h:t.g i=some r):1≤cntF qUsed t.F d.n:=by
 obtain ⟨h1,h2,_⟩:=pi_key hi h
 have e:=cntF_put (q:=qUsed) (F:=t.F) (f:=Fr.zero) h1
 have e3:qUsed (t.F r)=true:=h2
 have e4:qUsed Fr.zero=false:=rfl
 rw [e3,e4] at e
 have e5:true.toNat=1:=rfl
 have e6:false.toNat=0:=rfl
 rw [e5,e6] at e
 omega
theorem evict_any (hK:K.Good) (hmi:P.Miss) (h:PgrAt M w d t) (hi:PI P d t) (h0:t.hole=none) (hnx:t.nx<9223372036854775807) (hrd:K.Rdy t.s (d.n+1)) (n:Int):
 Calls Tryz.prog 47 #[.pointer (some ⟨d.Q,0,none⟩),.int .i64 n] w (EvPost M P w d t n):=by
 have hcl:=cntF_le qUsed t.F d.n
 have hn:=h.pool.most
 have HA:Hid (EvAt M P w d t n 0 w t):=hJ ⟨Stp.refl h hi,Ev.refl hK t,Num.refl t,rfl,.inr rfl⟩
 have H0:=hJ h0
 have HRD:=hJ hrd
 clear h hi h0 hrd
 go_enter Tryz.func47,Tryz.ntmps47
 go_wp2
 go_loopw [5] (fun v wr=>∃(k:Nat) (t1:PSt σ),v=.int .i64 (k:Nat)∧EvAt M P w d t n k wr t1) (fun v _=>d.n+1-(intOf v).toNat)
 case atStart=>exact ⟨0,t,rfl,HA.out⟩
 case round=>
  obtain ⟨k,t1,rfl,hat⟩:=hrel
  have HAT:=hJ hat
  have hkc:=hat.c
  have hkn:k≤d.n:=by omega
  have q0:=hat.s.at_.q0
  have hnx1:t1.nx<9223372036854775807:=by rw [hat.nu.nx];exact hnx
  have HFIN:Hid (EvPost M P w d t n (.returned (.int .i64 (k:Nat))) wr):=hJ ⟨t1,k,rfl,hat.s,hat.e.more hK (by omega),hat.nu,hat.c,hat.l⟩
  have hv:=vic_any hat.s.inv hat.s.at_.pool.hand
  have HV:=hJ (Victim_any hat.s.at_.pool hat.s.inv.kv)
  have HCC:=hJ hkc
  clear hat hkc HA
  by_cases hlt:(k:Int)<n
  · rcases hv with hv|⟨r,i,hr,hgi,hv⟩
    · have HV2:Hid (Calls Tryz.prog 90 #[.pointer (some ⟨d.Pb,0,none⟩)] wr fun e w'=>e=.returned (.tuple #[.int .i64 0,.bool false])∧Below wr.heap.size wr w'):=hJ (HV.out.mono fun e w' h=>⟨by rw [h.1,hv];rfl,h.2⟩)
      have HF2:Hid (∀W,Below wr.heap.size wr W→EvPost M P w d t n (.returned (.int .i64 (k:Nat))) W):=hJ fun W hb=>by
       obtain ⟨t',k',h1,h2,h3⟩:=HFIN.out
       exact ⟨t',k',h1,h2.up hb,h3⟩
      clear hv HV HFIN
      go_wp2_with fail
      refine HV2.out.mono ?_
      rintro e w2 ⟨rfl,hb⟩
      have HB:=hJ hb
      clear hb HV2
      go_wp2
      go_ret
      exact HF2.out _ HB.out
    · obtain ⟨x,hx,_⟩:=HAT.out.s.inv.res i r hgi
      obtain ⟨y1,y2,_⟩:=HAT.out.s.inv.ids i x hx
      have HV2:Hid (Calls Tryz.prog 90 #[.pointer (some ⟨d.Pb,0,none⟩)] wr fun e w'=>e=.returned (.tuple #[.int .i64 (r:Nat),.bool true])∧Below wr.heap.size wr w'):=hJ (HV.out.mono fun e w' h=>⟨by rw [h.1,hv];unfold vicV;simp,h.2⟩)
      have HGI:=hJ hgi
      clear hv HV hgi hx
      go_wp2_with fail
      refine HV2.out.mono ?_
      rintro e w2 ⟨rfl,hb⟩
      have HS:=hJ (HAT.out.s.up hb)
      have q0':=HS.out.at_.q0
      have HO:=hJ (out_any hK hmi HS.out.at_ HS.out.inv HGI.out (by rw [HAT.out.nu.hole,H0.out];simp) (by omega) (HAT.out.e.rdy 1 (hK.mono _ _ _ HRD.out (by have:=HCC.out;have:=vic_pos HAT.out.s.inv HGI.out;omega))))
      clear hb HV2 q0 y1 y2
      go_wp2_with fail
      refine HO.out.mono ?_
      rintro e w3 ⟨t2,er,rfl,u1,u2,u3,⟨rfl,u4,u5,u6⟩|⟨rfl,u4,u5,u6,u7⟩⟩
      · have HN:Hid (EvAt M P w d t n (k+1) w3 t2):=hJ ⟨HS.out.trans u1,HAT.out.e.trans u2,HAT.out.nu.trans u3,by have:=HCC.out;omega,.inl (by omega)⟩
        have hk1:k+1≤d.n:=by have:=HCC.out;omega
        clear u1 u2 u3 u4 u5 u6 HO HS q0'
        go_wp2
        go_roundw
        case rel=>exact ⟨k+1,t2,by go_num,HN.out⟩
        case measure=>simp [intOf];omega
      · have he0:=P.ez0
        have HN:Hid (EvPost M P w d t n (.returned (.int .i64 (k:Nat))) w3):=hJ ⟨t2,k,rfl,HS.out.trans u1,(HAT.out.e.trans u2).more hK (by omega),HAT.out.nu.trans u3,by rw [u7];exact HCC.out,HAT.out.l⟩
        clear u1 u2 u3 u4 u5 u6 u7 HO HS q0'
        go_wp2
        go_ret
        exact HN.out
  · clear hv HV
    go_wp2
    go_ret
    exact HFIN.out
end
set_option maxRecDepth 100000
set_option maxHeartbeats 4000000
theorem New_bad (w:World) (n:Int) (hn:n<1∨4096<n):Calls Tryz.prog 97 #[.int .i64 n] w fun e w'=>e=.returned (.tuple #[.pointer none,.int .i64 1])∧w=w':=by
 rcases hn with h|h
 · go_enter Tryz.func97,Tryz.ntmps97
   go_wp2
   go_ret2
   exact ⟨rfl,rfl⟩
 · have h':¬n<1:=by omega
   go_enter Tryz.func97,Tryz.ntmps97
   go_wp2
   go_ret2
   exact ⟨rfl,rfl⟩
structure Pg0 {σ:Type} {K:SnkF σ} (M:Snk K) (P:PSnk K) (w w':World) (z n:Nat) (O:Nat→Prop) (s:σ) (d:PD) (t:PSt σ):Prop where
 at_:PgrAt M w' d t
 inv:PI P d t
 bel:Below w.heap.size w w'
 own:∀k,ownP d t.pm k→w.heap.size≤k
 z:d.z=z
 n:d.n=n
 pm:t.pm=fun _=>none
 nx:t.nx=1
 cm:t.cm=0
 hole:t.hole=none
 O:t.O=O
 s:t.s=s
 used:cntF qUsed t.F d.n=0
def NwPost {σ:Type} {K:SnkF σ} (M:Snk K) (P:PSnk K) (w:World) (z n:Int) (O:Nat→Prop) (s:σ) (e:Ending) (w':World):Prop:=
 (e=.returned (.tuple #[.pointer none,.int .i64 1])∧Below w.heap.size w w'∧(z<16∨4096<z∨n<1∨4096<n))∨
 (∃d t,e=.returned (.tuple #[.pointer (some ⟨d.Q,0,none⟩),.int .i64 0])∧(16≤z∧z≤4096∧1≤n∧n≤4096)∧Pg0 M P w w' z.toNat n.toNat O s d t)
section
variable {σ:Type} {K:SnkF σ} {M:Snk K} {P:PSnk K} {w w' w1 w2 w3 w4 w5:World} {O:Nat→Prop} {s:σ}
theorem cnt_zero (n:Nat):cntF qUsed (fun _=>Fr.zero) n=0:=by
 induction n with
 |zero=>rfl
 |succ n ih=>rw [cntF_no (q:=qUsed) rfl,ih]
theorem visP_none:visP (fun _=>none) none=fun _=>none:=by
 funext k
 unfold visP
 split<;>rfl
theorem pgF_none:pgF (fun _=>none)=fun _=>none:=by
 funext v
 unfold pgF
 cases intOfV v<;>rfl
theorem pg0_mk (z n:Nat) (hz:16≤z∧z≤4096) (hn:1≤n∧n≤4096) (ha:M.At w O s) (hin:P.In s) {Pb B Mp:Nat} (hp:PoolAt w1 Pb B Mp n (fun _=>Fr.zero) 0 (fun _=>none) 0) (h1:w.heap.size≤Pb) (h2:w.heap.size≤B) (h3:w.heap.size≤Mp) (hb:Below w.heap.size w w1) {T:TypeId}
 (hw:w2=(w1.alloc (.map #[] 0)).alloc (.cells #[.pointer (some ⟨Pb,0,none⟩),.int .i64 (z:Nat),.int .i64 (n:Nat),.iface M.T (.pointer M.p),.map (some w1.heap.size),.int .i64 1] T)):
 ∃d t,d.Q=w1.heap.size+1∧Pg0 M P w w2 z n O s d t:=by
 subst hw
 have hb1:Below w1.heap.size w1 (w1.alloc (.map #[] 0)):=jB.alloc jN _
 have e1:(w1.alloc (.map #[] 0)).heap.size=w1.heap.size+1:=by simp
 have hb2:Below (w1.alloc (.map #[] 0)).heap.size (w1.alloc (.map #[] 0)) ((w1.alloc (.map #[] 0)).alloc (.cells #[.pointer (some ⟨Pb,0,none⟩),.int .i64 (z:Nat),.int .i64 (n:Nat),.iface M.T (.pointer M.p),.map (some w1.heap.size),.int .i64 1] T)):=jB.alloc jN _
 obtain ⟨w3,hw3⟩:∃w3,w3=w1.alloc (.map #[] 0):=⟨_,rfl⟩
 obtain ⟨w4,hw4⟩:∃w4,w4=w3.alloc (.cells #[.pointer (some ⟨Pb,0,none⟩),.int .i64 (z:Nat),.int .i64 (n:Nat),.iface M.T (.pointer M.p),.map (some w1.heap.size),.int .i64 1] T):=⟨_,rfl⟩
 have hmp:=MapIs.made (P:=Tryz.prog) (k:=3) w1
 rw [←hw3] at hb1 hb2 e1 hmp ⊢
 rw [←hw4] at hb2 ⊢
 have hc:∀k v,(#[.pointer (some ⟨Pb,0,none⟩),.int .i64 (z:Nat),.int .i64 (n:Nat),.iface M.T (.pointer M.p),.map (some w1.heap.size),.int .i64 1]:Array Value)[k]? =some v→w4.cell? ⟨w1.heap.size+1,k,none⟩=some v:=fun k v hv=>by
  rw [hw4,←e1,cell_of_row _ _ _ _ _ _ (heap_alloc_new w3 _)];exact hv
 have hbw:Below w.heap.size w w4:=(hb.trans (hb1.mono hb.size)).trans (hb2.mono (Nat.le_trans hb.size hb1.size))
 refine ⟨⟨w1.heap.size+1,Pb,B,Mp,w1.heap.size,n,z⟩,⟨fun _=>Fr.zero,0,fun _=>none,0,fun _=>none,0,1,none,O,s⟩,rfl,⟨⟨hc 0 _ rfl,hc 1 _ rfl,hc 2 _ rfl,hc 3 _ rfl,hc 4 _ rfl,hc 5 _ rfl,fun k=>?_,(hp.up hb1).up hb2,?_,fun i x hx=>(by cases hx),M.off ha (Off.of_below (S:=fun _=>False) hbw) (fun _ h=>h.elim),fun k hk e=>?_,fun i j x y k hx=>(by cases hx),?_,hz⟩,
  ⟨hin,⟨⟨fun j _ hu=>(by cases hu),fun k j hg=>(by cases hg)⟩,fun j _=>⟨Int.le_refl _,show (0:Int)≤1048576 by decide⟩⟩,fun j _=>rfl,fun i j hg=>(by cases hg),fun i x hx=>(by cases hx),fun i x hx=>(by cases hx),fun i x B c L hx=>(by cases hx),fun i x hx=>(by cases hx),fun i x hx=>(by cases hx),fun i hh=>(by cases hh),Nat.le_refl _⟩,hbw,fun k hk=>?_,rfl,rfl,rfl,rfl,rfl,rfl,rfl,rfl,cnt_zero n⟩⟩
 · unfold World.frozen?
   rw [hw4,←e1,heap_alloc_new]
   simp
 · show MapIs Tryz.prog 3 w4 w1.heap.size (pgF (visP (fun _=>none) none)) 0
   rw [visP_none,pgF_none]
   exact hmp.off (S:=fun _=>False) (Off.of_below hb2) id
 · have hl:=M.lt ha e
   have hwb:=hb.size
   rcases hk with e|e|e|e|e|⟨i,y,hy,_⟩
   · have e':k=w1.heap.size+1:=e
     omega
   · have e':k=Pb:=e
     omega
   · have e':k=B:=e
     omega
   · have e':k=Mp:=e
     omega
   · have e':k=w1.heap.size:=e
     omega
   · cases hy
 · have:=hp.ltM
   show Mp≠w1.heap.size
   omega
 · have hwb:=hb.size
   rcases hk with e|e|e|e|e|⟨i,y,hy,_⟩
   · have e':k=w1.heap.size+1:=e
     omega
   · have e':k=Pb:=e
     omega
   · have e':k=B:=e
     omega
   · have e':k=Mp:=e
     omega
   · have e':k=w1.heap.size:=e
     omega
   · cases hy
theorem pgNew_any (z n:Int) (ha:M.At w O s) (hin:P.In s):
 Calls Tryz.prog 57 #[.int .i64 z,.int .i64 n,.iface M.T (.pointer M.p)] w (NwPost M P w z n O s):=by
 by_cases h1:z<16
 · have HG:Hid (NwPost M P w z n O s (.returned (.tuple #[.pointer none,.int .i64 1])) w):=hJ (.inl ⟨rfl,Below.refl _ _,.inl h1⟩)
   clear ha hin
   go_enter Tryz.func57,Tryz.ntmps57
   go_wp2
   go_ret2
   exact HG.out
 by_cases h2:4096<z
 · have HG:Hid (NwPost M P w z n O s (.returned (.tuple #[.pointer none,.int .i64 1])) w):=hJ (.inl ⟨rfl,Below.refl _ _,.inr (.inl h2)⟩)
   clear ha hin
   go_enter Tryz.func57,Tryz.ntmps57
   go_wp2
   go_ret2
   exact HG.out
 by_cases h3:n<1∨4096<n
 · have HG:Hid (NwPost M P w z n O s (.returned (.tuple #[.pointer none,.int .i64 1])) w):=hJ (.inl ⟨rfl,Below.refl _ _,.inr (.inr h3)⟩)
   have HN:=hJ (New_bad w n h3)
   clear ha hin h3
   go_enter Tryz.func57,Tryz.ntmps57
   go_wp2_with fail
   refine HN.out.mono ?_
   rintro e w1 ⟨rfl,rfl⟩
   go_wp2
   go_ret2
   exact HG.out
 · obtain ⟨z,rfl⟩:=Int.eq_ofNat_of_zero_le (show 0≤z by omega)
   obtain ⟨n,rfl⟩:=Int.eq_ofNat_of_zero_le (show 0≤n by omega)
   have HN:=hJ (New_any w n (by omega) (by omega))
   have HA:=hJ ha
   have HI:=hJ hin
   have HB:=hJ (show (16≤z∧z≤4096)∧1≤n∧n≤4096 by omega)
   clear ha hin h3
   go_enter Tryz.func57,Tryz.ntmps57
   go_wp2_with fail
   refine HN.out.mono ?_
   rintro e w1 ⟨Pb,B,Mp,rfl,hp,g1,g2,g3,hb⟩
   have HG:Hid (∀W T,W=(w1.alloc (.map #[] 0)).alloc (.cells #[.pointer (some ⟨Pb,0,none⟩),.int .i64 (z:Nat),.int .i64 (n:Nat),.iface M.T (.pointer M.p),.map (some w1.heap.size),.int .i64 1] T)→NwPost M P w (z:Int) (n:Int) O s (.returned (.tuple #[.pointer (some ⟨w1.heap.size+1,0,none⟩),.int .i64 0])) W):=hJ fun W T hW=>by
    obtain ⟨d,t,e1,e2⟩:=pg0_mk (P:=P) z n HB.out.1 HB.out.2 HA.out HI.out hp g1 g2 g3 hb hW
    exact .inr ⟨d,t,by rw [e1],by have:=HB.out;omega,by simpa using e2⟩
   have hmm:=@run_makeMap Tryz.prog
   clear hp g1 g2 g3 hb HN
   go_wp2
   go_ret2
   exact HG.out _ _ rfl
end
set_option maxRecDepth 100000
set_option maxHeartbeats 4000000
def usesP (pm:Int→Option Pg) (id:Int) (u:Int):Int→Option Pg:=match pm id with
 |none=>pm
 |some x=>updP pm id (some {x with uses:=u})
section
variable {σ:Type} {K:SnkF σ} {M:Snk K} {P:PSnk K} {w w' w1 w2 w3 w4 w5:World} {d:PD} {t t' t1 t2:PSt σ} {id:Int} {x y:Pg} {j:Nat} {z k1 k2:Nat} {E:Int→Prop}
theorem uses_stp (h:PgrAt M w d t) (hi:PI P d t) (hx:t.pm id=some x) (u:Int):Stp M P w (w.setCell ⟨x.X,5,none⟩ (.int .i64 u)) d t {t with pm:=updP t.pm id (some {x with uses:=u})}:=by
 have hpg:=h.pg id x hx
 have ho1:Off x.blk w (w.setCell ⟨x.X,5,none⟩ (.int .i64 u)):=(Off.refl x.blk w).setCell (p:=⟨x.X,5,none⟩) (.inl rfl) _
 have hp1:PgAt (w.setCell ⟨x.X,5,none⟩ (.int .i64 u)) d.z {x with uses:=u}:=hpg.set (k:=5) (x':={x with uses:=u}) rfl rfl rfl rfl rfl rfl rfl (fun B c L e=>hpg.bsX h.zs.1 e)
 have hpm:∀i y,updP t.pm id (some {x with uses:=u}) i=some y→∃y0,t.pm i=some y0∧y.bb=y0.bb∧y.put=y0.put∧y.zero=y0.zero∧y.at_=y0.at_∧y.X=y0.X:=fun i y e=>by
  unfold updP at e
  split at e
  · rename_i h;cases e;rw [h];exact ⟨x,hx,rfl,rfl,rfl,rfl,rfl⟩
  · exact ⟨y,e,rfl,rfl,rfl,rfl,rfl⟩
 refine ⟨h.setPage hx rfl (fun k hk=>.inl hk) ho1 hp1,⟨hi.inn,hi.kv,hi.pz,fun i j hg=>?_,fun i y hy hb=>?_,fun i y hy hp=>?_,fun i y B c L hy hzz hb=>?_,fun i y hy h1 h2=>?_,fun i y hy=>?_,hi.hol,hi.nx1⟩,ho1.mono fun k hk=>.inl (.inr (.inr (.inr (.inr (.inr ⟨id,x,hx,hk⟩))))),fun k hk=>.inl ?_⟩
 · obtain ⟨y,e1,e2⟩:=hi.res i j hg
   by_cases e:i=id
   · subst e
     rw [hx] at e1
     cases e1
     exact ⟨_,updP_same _ _ _,e2⟩
   · exact ⟨y,(updP_ne _ _ e).trans e1,e2⟩
 · obtain ⟨y0,e0,e1,_⟩:=hpm i y hy
   exact hi.has i y0 e0 (by rw [←e1];exact hb)
 · obtain ⟨y0,e0,e1,e2,e3,e4,_⟩:=hpm i y hy
   rw [e1,e3,e4]
   exact hi.put i y0 e0 (by rw [←e2];exact hp)
 · obtain ⟨y0,e0,e1,e2,e3,e4,_⟩:=hpm i y hy
   exact hi.zer i y0 B c L e0 (by rw [←e3];exact hzz) (by rw [←e1];exact hb)
 · obtain ⟨y0,e0,e1,e2,e3,e4,_⟩:=hpm i y hy
   rw [e1]
   exact hi.dty i y0 e0 (by rw [←e2];exact h1) (by rw [←e3];exact h2)
 · obtain ⟨y0,e0,_⟩:=hpm i y hy
   exact hi.ids i y0 e0
 · rcases hk with hk|hk
   · rcases own_upd hx hk with e|e
     · exact .inl e
     · exact .inl (.inr (.inr (.inr (.inr (.inr ⟨id,x,hx,e⟩)))))
   · exact .inr hk
theorem keep_any (h:PgrAt M w d t) (hi:PI P d t) (h0:t.hole=none) (hid: -9223372036854775808≤id∧id≤9223372036854775807) (hu:∀x,t.pm id=some x→0≤x.uses∧x.uses≤1099511627776):
 Calls Tryz.prog 66 #[.pointer (some ⟨d.Q,0,none⟩),.int .i64 id] w fun e w'=>
  e =.returned (.tuple #[])∧match t.pm id with
    |none=>w'=w
    |some x=>Stp M P w w' d t {t with pm:=updP t.pm id (some {x with uses:=x.uses+1})}:=by
 have hlk:=h.look hid
 rw [vis_none h0] at hlk
 have q4:=h.q4
 cases hx:t.pm id with
 | none=>
   rw [hx] at hlk
   simp only [pgP,Option.map_none] at hlk
   clear h hi h0 hx hu
   go_enter Tryz.func66,Tryz.ntmps66
   go_wp2
   go_end0
   exact ⟨rfl,rfl⟩
 | some x=>
   rw [hx] at hlk
   simp only [pgP,Option.map_some] at hlk
   have p5:=(h.pg id x hx).c5
   have f5:=(h.pg id x hx).fz 5
   have lX:=lt_of_cell p5
   have hur:=hu x hx
   have hwr:IntKind.i64.wrap (x.uses+1)=x.uses+1:=by rw [IntWalk.i64_in _ (by omega)]
   have HS:=hJ (uses_stp h hi hx (x.uses+1))
   clear h hi h0 hx hu
   go_enter Tryz.func66,Tryz.ntmps66
   go_wp2
   go_end0
   exact ⟨rfl,HS.out⟩
theorem has_any (h:PgrAt M w d t) (h0:t.hole=none) (hid: -9223372036854775808≤id∧id≤9223372036854775807):
 Calls Tryz.prog 77 #[.pointer (some ⟨d.Q,0,none⟩),.int .i64 id] w fun e w'=>e=.returned (.bool (t.pm id).isSome)∧w'=w:=by
 have hlk:=h.look hid
 rw [vis_none h0] at hlk
 have q4:=h.q4
 cases hx:t.pm id with
 | none=>
   rw [hx] at hlk
   simp only [pgP,Option.map_none] at hlk
   clear h h0 hx
   go_enter Tryz.func77,Tryz.ntmps77
   go_wp2
   go_ret
   exact ⟨rfl,rfl⟩
 | some x=>
   rw [hx] at hlk
   simp only [pgP,Option.map_some] at hlk
   clear h h0 hx
   go_enter Tryz.func77,Tryz.ntmps77
   go_wp2
   go_ret
   exact ⟨rfl,rfl⟩
def sharedP (pm:Int→Option Pg) (id:Int):Bool:=match pm id with
 |none=>false
 |some x=>decide (1<x.uses)
theorem shared_any (h:PgrAt M w d t) (h0:t.hole=none) (hid: -9223372036854775808≤id∧id≤9223372036854775807):
 Calls Tryz.prog 103 #[.pointer (some ⟨d.Q,0,none⟩),.int .i64 id] w fun e w'=>e=.returned (.bool (sharedP t.pm id))∧w'=w:=by
 have hlk:=h.look hid
 rw [vis_none h0] at hlk
 have q4:=h.q4
 unfold sharedP
 cases hx:t.pm id with
 | none=>
   rw [hx] at hlk
   simp only [pgP,Option.map_none] at hlk
   clear h h0 hx
   go_enter Tryz.func103,Tryz.ntmps103
   go_wp2
   go_ret
   exact ⟨rfl,rfl⟩
 | some x=>
   rw [hx] at hlk
   simp only [pgP,Option.map_some] at hlk
   have p5:=(h.pg id x hx).c5
   have lX:=lt_of_cell p5
   clear h h0 hx
   go_enter Tryz.func103,Tryz.ntmps103
   go_wp2
   go_ret
   exact ⟨by simp,rfl⟩
def LetPost (M:Snk K) (P:PSnk K) (w:World) (d:PD) (t:PSt σ) (id:Int) (x:Pg) (e:Ending) (w':World):Prop:=
 e =.returned (.tuple #[])∧((1<x.uses∧Stp M P w w' d t {t with pm:=updP t.pm id (some {x with uses:=x.uses-1})})∨
   (x.uses≤1∧∃t',Stp M P w w' d t t'∧t'.pm=updP t.pm id none∧t'.cm=t.cm-1∧t'.nx=t.nx∧t'.hole=t.hole∧t'.s=t.s))
theorem let_any (h:PgrAt M w d t) (hi:PI P d t) (h0:t.hole=none) (hid: -9223372036854775808≤id∧id≤9223372036854775807) (hx:t.pm id=some x) (hu:0≤x.uses∧x.uses≤1099511627776):
 Calls Tryz.prog 65 #[.pointer (some ⟨d.Q,0,none⟩),.int .i64 id] w (LetPost M P w d t id x):=by
 have hlk:=h.look hid
 rw [vis_none h0,hx] at hlk
 have q4:=h.q4
 simp only [pgP,Option.map_some] at hlk
 have p5:=(h.pg id x hx).c5
 have f5:=(h.pg id x hx).fz 5
 have lX:=lt_of_cell p5
 have hwr:IntKind.i64.wrap (x.uses-1)=x.uses-1:=by rw [IntWalk.i64_in _ (by omega)]
 have hs:=uses_stp h hi hx (x.uses-1)
 have HS:=hJ hs
 have HD:Hid (Calls Tryz.prog 64 #[.pointer (some ⟨d.Q,0,none⟩),.int .i64 id] (w.setCell ⟨x.X,5,none⟩ (.int .i64 (x.uses-1))) fun e w'=>∃er,e=.returned (.int .i64 er)∧∃t',Stp M P w w' d t t'∧t'.pm=updP t.pm id none∧t'.cm=t.cm-1∧t'.nx=t.nx∧t'.hole=t.hole∧t'.s=t.s):=hJ (by
  refine (drop_any hs.at_ hs.inv h0 hid).mono ?_
  rintro e w' ⟨t',er,rfl,hst,hc⟩
  refine ⟨er,rfl,t',hs.trans hst,?_⟩
  rcases hc with ⟨_,hc,_⟩|⟨_,_,h1,h2,h3,h4,h5⟩
  · have hc2:updP t.pm id (some {x with uses:=x.uses-1}) id=none:=hc
    rw [updP_same] at hc2;cases hc2
  · refine ⟨?_,h2,h3,h4,h5⟩
    rw [h1]
    show updP (updP t.pm id (some {x with uses:=x.uses-1})) id none=_
    funext i
    unfold updP
    by_cases e:i=id
    · rw [if_pos e,if_pos e]
    · rw [if_neg e,if_neg e,if_neg e])
 clear h hi h0 hx hs
 by_cases h1:1<x.uses
 · have hd:decide (x.uses-1<1)=false:=decide_eq_false (by omega)
   have hd2:¬x.uses-1<1:=by omega
   go_enter Tryz.func65,Tryz.ntmps65
   go_wp2
   go_end0
   exact ⟨rfl,.inl ⟨h1,HS.out⟩⟩
 · have hd2:x.uses-1<1:=by omega
   go_enter Tryz.func65,Tryz.ntmps65
   go_wp2_with (go_at_call 64;refine HD.out.mono ?_;rintro e w1 ⟨er,rfl,hst⟩;have HST:=hJ hst;clear hst)
   go_end0
   exact ⟨rfl,.inr ⟨by omega,HST.out⟩⟩
theorem peekp_any (hK:K.Good) (hmi:P.Miss) (h:PgrAt M w d t) (h0:t.hole=none) (hid: -9223372036854775808≤id∧id≤9223372036854775807) (hx:t.pm id=some x) (hin:P.In t.s):
 Calls Tryz.prog 102 #[.pointer (some ⟨d.Q,0,none⟩),.int .i64 id] w (PkPost (M:=M) P w d t x):=by
 have hlk:=h.look hid
 rw [vis_none h0,hx] at hlk
 have q4:=h.q4
 simp only [pgP,Option.map_some] at hlk
 have HP:=hJ (peek_any hK hmi h hx hin)
 unfold PkPost at HP
 clear hK hmi h h0 hx hin
 go_enter Tryz.func102,Tryz.ntmps102
 go_wp2_with (go_at_call 123;refine HP.out.mono ?_;rintro e w1 ⟨s',v,er,rfl,hr⟩;have HR:=hJ hr;clear hr)
 go_ret2
 exact ⟨s',v,er,rfl,HR.out⟩
end
set_option maxRecDepth 100000
set_option maxHeartbeats 4000000
open Go.RowKit
theorem foldL_cons {α E:Type} (f:α→E→α×Bool) (a:α) (x:E) (xs:List E):foldL f a (x::xs)=if (f a x).2 then foldL f (f a x).1 xs else (f a x).1:=rfl
def Rg.args (x:Rg):Array Value:=#[x.v]
theorem pieces_cons (x:Rg) (L:List Rg) (lo hi:Int):piecesF (x::L) lo hi=if maxI x.lo lo<minI x.hi hi then pieceR lo hi x::piecesF L lo hi else piecesF L lo hi:=by
 unfold piecesF
 rw [List.map_cons,List.filter_cons]
 by_cases h:maxI x.lo lo<minI x.hi hi
 · rw [if_pos (show decide ((pieceR lo hi x).lo<(pieceR lo hi x).hi)=true from decide_eq_true h),if_pos h]
 · rw [if_neg (show ¬decide ((pieceR lo hi x).lo<(pieceR lo hi x).hi)=true from fun e=>h (of_decide_eq_true e)),if_neg h]
theorem wpIn_forget {F:Fence} {n:Nat} {P:Program} {c:Code} {Q:Exit→Act→World→Prop} {a:Act} {w:World} (R:World→Prop) (h:R w) (k:∀W,R W→c.wpIn F n P Q a W):c.wpIn F n P Q a w:=k w h
structure PcAt (w:World) (b:Nat) (A:Option Addr) (c:Nat) (L:List Rg) (lo hi:Int):Prop where
 c0:w.cell? ⟨b,0,none⟩=some (.slice A L.length c)
 c1:w.cell? ⟨b+1,0,none⟩=some (.int .i64 lo)
 c2:w.cell? ⟨b+2,0,none⟩=some (.int .i64 hi)
 row:RgAt w A L
def pcO (b:Nat) (A:Option Addr) (n:Nat) (k:Nat):Prop:=k=b∨k=b+1∨k=b+2∨rgO A n k
theorem PcAt.off {S:Nat→Prop} {w w':World} {b:Nat} {A:Option Addr} {c:Nat} {L:List Rg} {lo hi:Int} (h:PcAt w b A c L lo hi) (ho:Off S w w') (hs:∀k,S k→¬pcO b A L.length k):PcAt w' b A c L lo hi:=
 ⟨(ho.cell (p:=⟨b,0,none⟩) (lt_of_cell h.c0) (fun e=>hs _ e (.inl rfl))).trans h.c0,(ho.cell (p:=⟨b+1,0,none⟩) (lt_of_cell h.c1) (fun e=>hs _ e (.inr (.inl rfl)))).trans h.c1,(ho.cell (p:=⟨b+2,0,none⟩) (lt_of_cell h.c2) (fun e=>hs _ e (.inr (.inr (.inl rfl))))).trans h.c2,h.row.off ho (fun k e e2=>hs k e (.inr (.inr (.inr e2))))⟩
theorem PcAt.lt {w:World} {b:Nat} {A:Option Addr} {c:Nat} {L:List Rg} {lo hi:Int} (h:PcAt w b A c L lo hi) {k:Nat} (hk:pcO b A L.length k):k<w.heap.size:=by
 rcases hk with rfl|rfl|rfl|hk
 · exact lt_of_cell h.c0
 · exact lt_of_cell h.c1
 · exact lt_of_cell h.c2
 · exact h.row.lt hk
theorem pieces_any (w:World) {A:Option Addr} (c:Nat) {L:List Rg} (hL:RgAt w A L) (hn:L.length≤100000) (lo hi:Int):
 Calls Tryz.prog 144 #[.slice A L.length c,.int .i64 lo,.int .i64 hi] w fun e w'=>∃A' c',e=.returned (.func (.func 168) #[] #[.pointer (some ⟨w.heap.size,0,none⟩),.pointer (some ⟨w.heap.size+1,0,none⟩),.pointer (some ⟨w.heap.size+2,0,none⟩)])∧PcAt w' w.heap.size A' c' L lo hi∧Below w.heap.size w w'∧w.heap.size+3≤w'.heap.size∧∀k,rgO A' L.length k→w.heap.size≤k:=by
 have HL:=hJ hL
 clear hL
 have h3:∀W,W=(((w.alloc (.cells #[.slice A L.length c] 41)).alloc (.cells #[.int .i64 lo] 3)).alloc (.cells #[.int .i64 hi] 3))→W.cell? ⟨w.heap.size,0,none⟩=some (.slice A L.length c)∧W.frozen? ⟨w.heap.size,0,none⟩=false∧W.cell? ⟨w.heap.size+1,0,none⟩=some (.int .i64 lo)∧W.cell? ⟨w.heap.size+2,0,none⟩=some (.int .i64 hi)∧Below w.heap.size w W∧W.heap.size=w.heap.size+3:=by
  rintro W rfl
  have s1:(w.alloc (.cells #[.slice A L.length c] 41)).heap.size=w.heap.size+1:=by simp
  have b1:Below w.heap.size w (w.alloc (.cells #[.slice A L.length c] 41)):=jB.alloc jN _
  have c1:=alloc_at w (.slice A L.length c) 41
  generalize w.alloc (.cells #[.slice A L.length c] 41)=W1 at *
  have s2:(W1.alloc (.cells #[.int .i64 lo] 3)).heap.size=w.heap.size+2:=by simp [s1]
  have b2:Below W1.heap.size W1 (W1.alloc (.cells #[.int .i64 lo] 3)):=jB.alloc jN _
  have c2:=(alloc_at W1 (.int .i64 lo) 3).1
  rw [s1] at c2
  generalize W1.alloc (.cells #[.int .i64 lo] 3)=W2 at *
  have b3:Below W2.heap.size W2 (W2.alloc (.cells #[.int .i64 hi] 3)):=jB.alloc jN _
  have c3:=(alloc_at W2 (.int .i64 hi) 3).1
  rw [s2] at c3
  have k1:=(b2.cell (p:=⟨w.heap.size,0,none⟩) (by show w.heap.size<W1.heap.size;omega)).trans c1.1
  have f1:=(b2.frozen (p:=⟨w.heap.size,0,none⟩) (by show w.heap.size<W1.heap.size;omega)).trans c1.2
  exact ⟨(b3.cell (p:=⟨w.heap.size,0,none⟩) (by show w.heap.size<W2.heap.size;omega)).trans k1,(b3.frozen (p:=⟨w.heap.size,0,none⟩) (by show w.heap.size<W2.heap.size;omega)).trans f1,(b3.cell (p:=⟨w.heap.size+1,0,none⟩) (by show w.heap.size+1<W2.heap.size;omega)).trans c2,c3,(b1.trans (b2.mono (by omega))).trans (b3.mono (by omega)),by simp [s2]⟩
 go_enter Tryz.func144,Tryz.ntmps144
 go_upto_region 1 with (fail)
 refine wp_forget (fun W=>W.cell? ⟨w.heap.size,0,none⟩=some (.slice A L.length c)∧W.frozen? ⟨w.heap.size,0,none⟩=false∧W.cell? ⟨w.heap.size+1,0,none⟩=some (.int .i64 lo)∧W.cell? ⟨w.heap.size+2,0,none⟩=some (.int .i64 hi)∧Below w.heap.size w W∧W.heap.size=w.heap.size+3) (h3 _ rfl) ?_
 clear h3
 rintro W ⟨c0,f0,c1,c2,hb,hs⟩
 have HB:=hJ hb
 have HC:=hJ (And.intro c1 c2)
 have l0:=lt_of_cell c0
 have HCL:=hJ (cloneG_any W c (HL.out.up hb) hn)
 have HS:=hJ hs
 clear hb c1 c2 hs
 go_upto_region 2 with (go_at_call 78;refine HCL.out.mono ?_;rintro e W1 ⟨A1,c1,rfl,how,hb1⟩;have q0:=(hb1.cell (p:=⟨w.heap.size,0,none⟩) l0).trans c0;have g0:=(hb1.frozen (p:=⟨w.heap.size,0,none⟩) l0).trans f0;have m0:=lt_of_cell q0;have HOW:=hJ how;have HB1:=hJ hb1;clear how hb1)
 refine wp_forget (fun V=>PcAt V w.heap.size A1 c1 L lo hi∧Below w.heap.size w V∧w.heap.size+3≤V.heap.size∧∀k,rgO A1 L.length k→w.heap.size≤k) ?_ ?_
 · have ho:Off (· =w.heap.size) W1 (W1.setCell ⟨w.heap.size,0,none⟩ (.slice A1 L.length c1)):=(Off.refl (· =w.heap.size) W1).setCell (p:=⟨w.heap.size,0,none⟩) rfl _
   have hb2:=HB.out.trans (HB1.out.mono HB.out.size)
   have hs:=HS.out
   have hs2:=HB1.out.size
   refine ⟨⟨World.cell?_setCell_same _ _ _ q0,(ho.cell (p:=⟨w.heap.size+1,0,none⟩) (by show w.heap.size+1<W1.heap.size;omega) (by show ¬w.heap.size+1=w.heap.size;omega)).trans ((HB1.out.cell (p:=⟨w.heap.size+1,0,none⟩) (by show w.heap.size+1<W.heap.size;omega)).trans HC.out.1),
    (ho.cell (p:=⟨w.heap.size+2,0,none⟩) (by show w.heap.size+2<W1.heap.size;omega) (by show ¬w.heap.size+2=w.heap.size;omega)).trans ((HB1.out.cell (p:=⟨w.heap.size+2,0,none⟩) (by show w.heap.size+2<W.heap.size;omega)).trans HC.out.2),
    (HOW.out.rg).off ho (fun k e e2=>?_)⟩,hb2.trans (ho.below (fun k e=>by rw [e];exact Nat.le_refl _) hb2.size),by simp;omega,fun k hk=>?_⟩
   · have:=(HOW.out.lt (HOW.out.own e2)).1;omega
   · have:=(HOW.out.lt (HOW.out.own hk)).1;omega
 clear q0 g0 m0 c0 f0 l0 HB HC HCL HOW HB1 HS
 rintro V hv
 have HVV:=hJ hv
 clear hv
 go_wp2
 go_ret
 exact ⟨_,_,rfl,HVV.out⟩
theorem pieces1_any {α:Type} {f:α→Rg→α×Bool} {al:α→Bool} (Y:YdL Rg.args f al) (hal:∀x e,al x=true→(f x e).2=al (f x e).1) {w:World} {O:Nat→Prop} {x0:α} {b c:Nat} {A:Option Addr} {L:List Rg} {lo hi:Int} (hi0:Y.Iv w O x0) (hx0:al x0=true) (hp:PcAt w b A c L lo hi) (hO:∀k,pcO b A L.length k→¬O k) (hn:L.length≤100000):
 Calls Tryz.prog 168 #[.func (.yield Y.l) #[] #[],.pointer (some ⟨b,0,none⟩),.pointer (some ⟨b+1,0,none⟩),.pointer (some ⟨b+2,0,none⟩)] w (SqL Y w O (foldL f x0 (piecesF L lo hi))):=by
 have HP:=hJ hp
 have HO:=hJ hO
 have HI:=hJ hi0
 have c0:=hp.c0
 have l0:=lt_of_cell c0
 have HAL:=hJ hal
 clear hp hO hi0 hal
 refine (callsIn_wide (n:=9)).1 ?_
 refine callsIn_of_wp Tryz.func168 rfl trivial ?_ rfl
 simp only [Tryz.ntmps168,List.size_toArray,List.length_cons,List.length_nil,Nat.reduceAdd,Nat.reduceSub,Array.replicate_succ,Array.replicate_zero,List.push_toArray,List.append_toArray,List.nil_append,List.cons_append]
 gi_wp2
 gi_loopw [10] (fun i wr=>∃(j:Nat) (O1:Nat→Prop) (x:α),j≤L.length∧i=.int .i64 (j:Nat)∧Y.Iv wr O1 x∧al x=true∧PcAt wr b A c L lo hi∧(∀k,pcO b A L.length k→¬O1 k)∧foldL f x0 (piecesF L lo hi)=foldL f x (piecesF (L.drop j) lo hi)∧Off O w wr∧∀k,O1 k→O k∨w.heap.size≤k) (fun i _=>L.length-(intOf i).toNat)
 case atStart=>exact ⟨0,O,x0,by omega,rfl,HI.out,hx0,HP.out,HO.out,rfl,Off.refl _ _,fun k=>.inl⟩
 case round=>
  obtain ⟨j,O1,x,hj,rfl,hiv,hx,hpc,hO1,hfold,hof,hgr⟩:=hrel
  have HPC:=hJ hpc
  have HIV:=hJ hiv
  have HO1:=hJ hO1
  have HF:=hJ hfold
  have HOF:=hJ hof
  have HGR:=hJ hgr
  have k1:=hpc.c1
  have k2:=hpc.c2
  have l1:=lt_of_cell k1
  have l2:=lt_of_cell k2
  clear hiv hpc hO1 hfold hof hgr HP HI HO c0 l0
  by_cases hjn:j<L.length
  · obtain ⟨g,o,hA,hg,hc⟩:=HPC.out.row.at_ (by omega)
    subst hA
    obtain ⟨r,hr⟩:∃r,L[j]? =some r:=⟨_,jE hjn⟩
    obtain ⟨q0,q1,q2⟩:=hc j r hr
    have hjI:(j:Int)<(L.length:Int):=by omega
    have hdrop:piecesF (L.drop j) lo hi=if maxI r.lo lo<minI r.hi hi then pieceR lo hi r::piecesF (L.drop (j+1)) lo hi else piecesF (L.drop (j+1)) lo hi:=by
     rw [←pieces_cons]
     congr 1
     rw [List.drop_eq_getElem_cons hjn]
     congr 1
     rw [jE hjn] at hr
     exact Option.some.inj hr
    have HD:=hJ hdrop
    clear hdrop hc hr
    obtain ⟨ra,rb,rp⟩:=r
    simp only at q0 q1 q2
    obtain ⟨p0,hp0⟩:∃p,p=maxI ra lo:=⟨_,rfl⟩
    obtain ⟨p1,hp1⟩:∃p,p=minI rb hi:=⟨_,rfl⟩
    simp only at HD
    rw [←hp0,←hp1,show pieceR lo hi ⟨ra,rb,rp⟩=⟨p0,p1,rp⟩ by rw [hp0,hp1];rfl] at HD
    unfold maxI at hp0
    unfold minI at hp1
    gi_upto_region 4 with (fail)
    rw [←hp0,←hp1]
    clear hp0 hp1
    refine wpIn_forget (fun V=>Below wr.heap.size wr V∧V.cell? ⟨wr.heap.size+1,0,none⟩=some (.int .i64 p0)∧V.cell? ⟨wr.heap.size+1,1,none⟩=some (.int .i64 p1)∧V.cell? ⟨wr.heap.size+1,2,none⟩=some (.int .i64 rp)) ?_ ?_
    · have b1:Below wr.heap.size wr (wr.alloc (.cells #[.int .i64 ra,.int .i64 rb,.int .i64 rp] 62)):=jB.alloc jN _
      have s1:(wr.alloc (.cells #[.int .i64 ra,.int .i64 rb,.int .i64 rp] 62)).heap.size=wr.heap.size+1:=by simp
      generalize wr.alloc (.cells #[.int .i64 ra,.int .i64 rb,.int .i64 rp] 62)=W1 at *
      have b2:Below W1.heap.size W1 (W1.alloc (.cells #[.int .i64 p0,.int .i64 p1,.int .i64 rp] 62)):=jB.alloc jN _
      have hc:∀k v,(#[.int .i64 p0,.int .i64 p1,.int .i64 rp]:Array Value)[k]? =some v→(W1.alloc (.cells #[.int .i64 p0,.int .i64 p1,.int .i64 rp] 62)).cell? ⟨W1.heap.size,k,none⟩=some v:=fun k v hv=>by
       rw [cell_of_row _ _ _ _ _ _ (heap_alloc_new W1 _)];exact hv
      rw [s1] at hc
      exact ⟨b1.trans (b2.mono (by omega)),hc 0 _ rfl,hc 1 _ rfl,hc 2 _ rfl⟩
    rintro V ⟨hb,v0,v1,v2⟩
    have HB:=hJ hb
    have lv:=lt_of_cell v0
    have HPV:=hJ (HPC.out.off (S:=fun _=>False) (Off.of_below hb) (fun _=>False.elim))
    have HIVV:=hJ (Y.off HIV.out (Off.of_below (S:=fun _=>False) hb) (fun _=>False.elim))
    have HLT:=hJ (fun k (hk:O1 k)=>Y.lt HIV.out hk)
    clear hb HIV q0 q1 q2 k1 k2 l1 l2
    by_cases hlt:p0<p1
    · have hd:=HD.out
      rw [if_pos hlt] at hd
      have hfold:=HF.out
      rw [hd,foldL_cons] at hfold
      have hal2:=HAL.out x ⟨p0,p1,rp⟩ hx
      have hcall:=Y.call ⟨p0,p1,rp⟩ HIVV.out hx
      obtain ⟨y,hy⟩:∃y,f x ⟨p0,p1,rp⟩=y:=⟨_,rfl⟩
      rw [hy] at hfold hal2 hcall
      obtain ⟨y1,more⟩:=y
      simp only at hfold hal2
      obtain ⟨fn,tmps,assign,body,hyl,hR⟩:=hcall
      simp only [Rg.args,Rg.v] at hyl
      have HFO:=hJ hfold
      have HR:=hJ hR
      have HA2:=hJ hal2
      clear hfold hal2 hd hR hy HIVV
      gi_wp2
      refine HR.out.mono ?_
      rintro e W3 ⟨O2,rfl,hiv2,hof2,hgr2⟩
      simp only
      have HI2:=hJ hiv2
      have HOF2:Hid (Off O w W3):=hJ ((HOF.out.step HB.out).late hof2 fun i hl e=>(HGR.out i e).elim id (fun e=>by omega))
      have HGR2:Hid (∀k,O2 k→O k∨w.heap.size≤k):=hJ fun k e=>by
       rcases hgr2 k e with e|e
       · exact HGR.out k e
       · have:=HOF.out.size;have:=HB.out.size;exact .inr (by omega)
      have HP2:=hJ (HPV.out.off hof2 (fun k e e2=>HO1.out k e2 e))
      have HO2:Hid (∀k,pcO b (some ⟨g,o,none⟩) L.length k→¬O2 k):=hJ fun k e e2=>by
       rcases hgr2 k e2 with e3|e3
       · exact HO1.out k e e3
       · have:=HPV.out.lt e;omega
      clear hiv2 hof2 hgr2
      cases more with
      | true=>
        have hfold:=HFO.out
        rw [if_pos rfl] at hfold
        have HF2:=hJ hfold
        clear hfold hyl HR
        gi_wp2
        go_roundw
        case rel=>exact ⟨j+1,O2,y1,by omega,by go_num,HI2.out,HA2.out.symm,HP2.out,HO2.out,HF2.out,HOF2.out,HGR2.out⟩
        case measure=>simp [intOf];omega
      | false=>
        have hfold:=HFO.out
        rw [if_neg (by simp)] at hfold
        have HF2:=hJ hfold
        clear hfold hyl HR
        gi_wp2
        go_end0
        exact ⟨O2,⟨_,rfl⟩,by rw [HF2.out];exact HI2.out,HOF2.out,HGR2.out⟩
    · have hd:=HD.out
      rw [if_neg hlt] at hd
      have hfold:=HF.out
      rw [hd] at hfold
      have HF2:=hJ hfold
      clear hd hfold
      gi_wp2
      refine ⟨(fun _ h=>by cases h),?_⟩
      gi_wp2
      go_roundw
      case rel=>exact ⟨j+1,O1,x,by omega,by go_num,HIVV.out,hx,HPV.out,HO1.out,HF2.out,HOF.out.step HB.out,HGR.out⟩
      case measure=>simp [intOf];omega
  · obtain rfl:j=L.length:=by omega
    have hfold:=HF.out
    rw [List.drop_length] at hfold
    have HF2:=hJ (show foldL f x0 (piecesF L lo hi)=x from hfold)
    clear hfold hjn
    have hjj:¬(L.length:Int)<(L.length:Int):=by omega
    gi_wp2
    go_end0
    exact ⟨O1,⟨_,rfl⟩,by rw [HF2.out];exact HIV.out,HOF.out,HGR.out⟩
end Go.Proofs.YtlhfjaagkgengaaGreat
