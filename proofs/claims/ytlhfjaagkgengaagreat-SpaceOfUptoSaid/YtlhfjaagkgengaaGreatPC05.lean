/- The walk of frames.sweep. The plain law of the sweep. What becomes of a pool when memory is written. The walk of Pool.Take. -/
import Derived.Test.YtlhfjaagkgengaaGreatPC04
import Derived.WalkMore
namespace Go.Proofs.YtlhfjaagkgengaaGreat
set_option maxHeartbeats 1000000
open Go.RowKit Go.Maps
set_option linter.unusedVariables false
set_option linter.unusedSimpArgs false
def clr (F:Nat→Fr) (k:Nat):Nat→Fr:=fun i=>if i=k then {F i with ref:=false} else F i
def sw (n:Nat):Nat→Nat→(Nat→Fr)→Int×(Nat→Fr)
 |0,_,F=>(-1,F)
 |d+1,k,F=>if !(F k).used||decide (0<(F k).pins) then sw n d ((k+1)%n) F else if (F k).ref then sw n d ((k+1)%n) (clr F k) else ((k:Int),F)
theorem FrS.clr {w:World} {B n k:Nat} {F:Nat→Fr} (h:FrS w B n F) (hk:k<n):FrS (w.setCell ⟨B,k*5+2,none⟩ (.bool false)) B n (clr F k):=by
 intro i hi
 have hi5:=h i hi
 have hne:∀r,r<5→(i=k→r≠2)→(⟨B,k*5+2,none⟩:Addr)≠⟨B,i*5+r,none⟩:=by
  intro r hr h1 he
  injection he with _ he
  by_cases hik:i=k
  · subst hik;exact h1 rfl (by omega)
  · omega
 unfold Go.Proofs.YtlhfjaagkgengaaGreat.clr
 by_cases hik:i=k
 · subst hik
   rw [if_pos rfl]
   exact ⟨(World.cell?_setCell_other _ _ _ _ (hne 0 (by omega) (by omega))).trans hi5.c0,(World.cell?_setCell_other _ _ _ _ (hne 1 (by omega) (by omega))).trans hi5.c1,World.cell?_setCell_same _ _ _ hi5.c2,(World.cell?_setCell_other _ _ _ _ (hne 3 (by omega) (by omega))).trans hi5.c3,(World.cell?_setCell_other _ _ _ _ (hne 4 (by omega) (by omega))).trans hi5.c4⟩
 · rw [if_neg hik]
   exact ⟨(World.cell?_setCell_other _ _ _ _ (hne 0 (by omega) (by omega))).trans hi5.c0,(World.cell?_setCell_other _ _ _ _ (hne 1 (by omega) (by omega))).trans hi5.c1,(World.cell?_setCell_other _ _ _ _ (hne 2 (by omega) (fun e=>absurd e hik))).trans hi5.c2,(World.cell?_setCell_other _ _ _ _ (hne 3 (by omega) (by omega))).trans hi5.c3,(World.cell?_setCell_other _ _ _ _ (hne 4 (by omega) (by omega))).trans hi5.c4⟩
theorem sw_skip {n d k:Nat} {F:Nat→Fr} (h:(!(F k).used||decide (0<(F k).pins))=true):sw n (d+1) k F=sw n d ((k+1)%n) F:=by rw [sw,if_pos h]
theorem sw_clr {n d k:Nat} {F:Nat→Fr} (h:(!(F k).used||decide (0<(F k).pins))=false) (h2:(F k).ref=true):sw n (d+1) k F=sw n d ((k+1)%n) (clr F k):=by rw [sw,if_neg (by rw [h];exact Bool.false_ne_true),if_pos h2]
theorem sw_found {n d k:Nat} {F:Nat→Fr} (h:(!(F k).used||decide (0<(F k).pins))=false) (h2:(F k).ref=false):sw n (d+1) k F=((k:Int),F):=by rw [sw,if_neg (by rw [h];exact Bool.false_ne_true),if_neg (by rw [h2];exact Bool.false_ne_true)]
structure SwAt (w:World) (B n h:Nat) (F:Nat→Fr) (k r:Nat) (F':Nat→Fr) (wr:World):Prop where
 le:k≤2*n+1
 lt:r<n
 run:sw n (2*n+1-k) r F'=sw n (2*n+1) h F
 fr:FrS wr B n F'
 fz:∀j,wr.frozen? ⟨B,j,none⟩=false
 off:Off (· =B) w wr
def SwPost (n:Nat) (h:Nat) (F:Nat→Fr) (B:Nat) (w:World) (e:Ending) (w':World):Prop:=e=.returned (.int .i64 (sw n (2*n+1) h F).1)∧FrS w' B n (sw n (2*n+1) h F).2∧(∀j,w'.frozen? ⟨B,j,none⟩=false)∧Off (· =B) w w'
theorem sweep_any {K:Nat} (w:World) (B n h:Nat) (F:Nat→Fr) (hn:n≤4096) (hp:0<n) (hh:h<n) (hF:FrS w B n F) (hz:∀j,w.frozen? ⟨B,j,none⟩=false):
 Calls Tryz.prog 138 #[.slice (some ⟨B,0,none⟩) n K,.int .i64 h] w (SwPost n h F B w):=by
 have H0:Hid (SwAt w B n h F 0 h F w):=⟨by omega,hh,rfl,hF,hz,Off.refl _ _⟩
 clear hF hz
 go_enter Tryz.func138,Tryz.ntmps138
 go_wp2
 go_step3
 go_wp2
 go_step3
 go_wp2
 go_loopw [5,13] (fun a i wr=>∃(k r:Nat) (F':Nat→Fr),i=.int .i64 k∧a=.int .i64 r∧SwAt w B n h F k r F' wr) (fun _ i _=>2*n+1-(intOf i).toNat)
 case atStart=>exact ⟨0,h,F,rfl,rfl,H0.out⟩
 case round=>
  obtain ⟨k,r,F',rfl,rfl,hs⟩:=hrel
  have hk:=hs.le
  have hr:=hs.lt
  have HS:=hJ hs
  clear H0 hs
  by_cases hlt:k<2*n+1
  · obtain ⟨c0,c1,c2,c3,c4⟩:=HS.out.fr r hr
    have z2:=HS.out.fz (r*5+2)
    have hm:((r:Int)+1)%(n:Int)=(((r+1)%n:Nat):Int):=by rw [Int.natCast_emod];simp
    have hml:(r+1)%n<n:=Nat.mod_lt _ hp
    have HM:=hJ hm
    clear hm
    have hd:2*n+1-k=(2*n+1-(k+1))+1:=by omega
    have HD:=hJ hd
    clear hd
    cases hu:(F' r).used
    · have HK:Hid (sw n (2*n+1-(k+1)) ((r+1)%n) F'=sw n (2*n+1) h F):=by
       have:=HS.out.run
       rw [HD.out,sw_skip (by simp [hu])] at this
       exact this
      go_wp2
      go_roundw
      case rel=>exact ⟨k+1,(r+1)%n,F',by go_num,by rw [HM.out],⟨by omega,hml,HK.out,HS.out.fr,HS.out.fz,HS.out.off⟩⟩
      case measure=>simp [intOf];omega
    · by_cases hpin:0<(F' r).pins
      · have HK:Hid (sw n (2*n+1-(k+1)) ((r+1)%n) F'=sw n (2*n+1) h F):=by
         have:=HS.out.run
         rw [HD.out,sw_skip (by simp [hu,hpin])] at this
         exact this
        go_wp2
        go_roundw
        case rel=>exact ⟨k+1,(r+1)%n,F',by go_num,by rw [HM.out],⟨by omega,hml,HK.out,HS.out.fr,HS.out.fz,HS.out.off⟩⟩
        case measure=>simp [intOf];omega
      · cases hrf:(F' r).ref
        · have HK:Hid (sw n (2*n+1) h F=((r:Int),F')):=by
           have:=HS.out.run
           rw [HD.out,sw_found (by simp [hu];omega) hrf] at this
           exact this.symm
          go_wp2
          try rw [Exit.noGoto_ret]
          go_ret
          exact ⟨by rw [HK.out];rfl,by rw [HK.out];exact HS.out.fr,HS.out.fz,HS.out.off⟩
        · have HK:Hid (sw n (2*n+1-(k+1)) ((r+1)%n) (clr F' r)=sw n (2*n+1) h F):=by
           have:=HS.out.run
           rw [HD.out,sw_clr (by simp [hu];omega) hrf] at this
           exact this
          go_wp2
          go_roundw
          case rel=>exact ⟨k+1,(r+1)%n,clr F' r,by go_num,by rw [HM.out],⟨by omega,hml,HK.out,HS.out.fr.clr hr,fun j=>by rw [World.frozen?_setCell];exact HS.out.fz j,HS.out.off.setCell rfl _⟩⟩
          case measure=>simp [intOf];omega
  · have HK:Hid (sw n (2*n+1) h F=(-1,F')):=by
     have:=HS.out.run
     rw [show 2*n+1-k=0 by omega] at this
     exact this.symm
    go_wp2
    try rw [Exit.noGoto_ret]
    go_ret
    exact ⟨by rw [HK.out];rfl,by rw [HK.out];exact HS.out.fr,HS.out.fz,HS.out.off⟩
set_option maxHeartbeats 1000000
def Fr.cand (f:Fr):Bool:=f.used && !decide (0<f.pins)
theorem cand_not (f:Fr):(!f.used||decide (0<f.pins))= !f.cand:=by unfold Fr.cand;cases f.used<;>simp
theorem clr_at (F:Nat→Fr) (k:Nat):(clr F k k).ref=false:=by simp [clr]
theorem clr_cand (F:Nat→Fr) (k i:Nat):(clr F k i).cand=(F i).cand:=by unfold clr Fr.cand;split<;>rfl
theorem clr_ne (F:Nat→Fr) {k i:Nat} (h:i≠k):clr F k i=F i:=by unfold clr;rw [if_neg h]
def Cleared (F F':Nat→Fr):Prop:=∀i,(F' i).key=(F i).key∧(F' i).used=(F i).used∧(F' i).dirty=(F i).dirty∧(F' i).pins=(F i).pins∧((F' i).ref=true→(F i).ref=true)
theorem Cleared.refl (F:Nat→Fr):Cleared F F:=fun i=>⟨rfl,rfl,rfl,rfl,id⟩
theorem Cleared.clr {F F':Nat→Fr} (k:Nat) (h:Cleared (Go.Proofs.YtlhfjaagkgengaaGreat.clr F k) F'):Cleared F F':=by
 intro i
 have:=h i
 unfold Go.Proofs.YtlhfjaagkgengaaGreat.clr at this
 split at this
 · exact ⟨this.1,this.2.1,this.2.2.1,this.2.2.2.1,fun x=>by simpa using this.2.2.2.2 x⟩
 · exact this
theorem Cleared.cand {F F':Nat→Fr} (h:Cleared F F') (i:Nat):(F' i).cand=(F i).cand:=by unfold Fr.cand;rw [(h i).2.1,(h i).2.2.2.1]
theorem sw_form (n:Nat) (hn:0<n):∀d k F,k<n→Cleared F (sw n d k F).2∧((sw n d k F).1= -1∨∃r:Nat,(sw n d k F).1=r∧r<n∧((sw n d k F).2 r).cand=true∧((sw n d k F).2 r).ref=false)
 |0,k,F,hk=>⟨Cleared.refl F,.inl rfl⟩
 | d + 1,k,F,hk=>by
   unfold sw
   rw [cand_not]
   cases hc:(F k).cand
   · simp only [Bool.not_false,if_true]
     exact sw_form n hn d _ F (Nat.mod_lt _ hn)
   · simp only [Bool.not_true,Bool.false_eq_true,if_false]
     cases hr:(F k).ref
     · simp only [Bool.false_eq_true,if_false]
       exact ⟨Cleared.refl F,.inr ⟨k,rfl,hk,hc,hr⟩⟩
     · simp only [if_true]
       obtain ⟨h1,h2⟩:=sw_form n hn d _ (clr F k) (Nat.mod_lt (k+1) hn)
       exact ⟨Cleared.clr k h1,h2⟩
theorem sw_none (n:Nat) (hn:0<n):∀d k F,k<n→(sw n d k F).1= -1→∀s,s<d→(F ((k+s)%n)).cand=true→(F ((k+s)%n)).ref=true∧∀s',s<s'→s'<d→(k+s')%n≠(k+s)%n
 |0,k,F,hk,h,s,hs,_=>by omega
 | d + 1,k,F,hk,h,s,hs,hcs=>by
   have hmod:∀s1,((k+1)%n+s1)%n=(k+(s1+1))%n:=fun s1=>by rw [Nat.mod_add_mod];congr 1;omega
   have hk0:(k+0)%n=k:=by rw [Nat.add_zero];exact Nat.mod_eq_of_lt hk
   unfold sw at h
   rw [cand_not] at h
   cases hc:(F k).cand
   · rw [hc] at h
     simp only [Bool.not_false,if_true] at h
     have ih:=sw_none n hn d _ F (Nat.mod_lt (k+1) hn) h
     cases s with
     |zero=>rw [hk0,hc] at hcs;cases hcs
     | succ s1=>
       have:=ih s1 (by omega) (by rw [hmod];exact hcs)
       rw [hmod] at this
       refine ⟨this.1,fun s' h1 h2=>?_⟩
       cases s' with
       |zero=>omega
       |succ s2=>have h3:=this.2 s2 (by omega) (by omega);rwa [hmod] at h3
   · rw [hc] at h
     simp only [Bool.not_true,Bool.false_eq_true,if_false] at h
     cases hr:(F k).ref
     · rw [hr] at h
       simp only [Bool.false_eq_true,if_false] at h
       omega
     · rw [hr] at h
       simp only [if_true] at h
       have ih:=sw_none n hn d _ (clr F k) (Nat.mod_lt (k+1) hn) h
       have never:∀s1,s1<d→(k+(s1+1))%n≠k:=by
        intro s1 h1 he
        have h2:=(ih s1 h1 (by rw [hmod,he,clr_cand];exact hc)).1
        rw [hmod,he,clr_at] at h2
        cases h2
       cases s with
       | zero=>
         rw [hk0]
         refine ⟨hr,fun s' h1 h2=>?_⟩
         cases s' with
         |zero=>omega
         |succ s2=>exact never s2 (by omega)
       | succ s1=>
         have hne:=never s1 (by omega)
         have:=ih s1 (by omega) (by rw [hmod,clr_ne F hne];exact hcs)
         rw [hmod,clr_ne F hne] at this
         refine ⟨this.1,fun s' h1 h2=>?_⟩
         cases s' with
         |zero=>omega
         |succ s2=>have h3:=this.2 s2 (by omega) (by omega);rwa [hmod] at h3
theorem sw_some {n h i:Nat} {F:Nat→Fr} (hh:h<n) (hi:i<n) (hc:(F i).cand=true):∃r:Nat,(sw n (2*n+1) h F).1=r∧r<n∧((sw n (2*n+1) h F).2 r).cand=true∧((sw n (2*n+1) h F).2 r).ref=false:=by
 have hn:0<n:=by omega
 rcases (sw_form n hn (2*n+1) h F hh).2 with h1|h1
 · exfalso
   have e:∃s,s<n∧(h+s)%n=i:=by
    rcases Nat.lt_or_ge i h with hl|hl
    · refine ⟨i+n-h,by omega,?_⟩
      rw [show h+(i+n-h)=i+n by omega,Nat.add_mod_right,Nat.mod_eq_of_lt hi]
    · refine ⟨i-h,by omega,?_⟩
      rw [show h+(i-h)=i by omega,Nat.mod_eq_of_lt hi]
   obtain ⟨s,hs,he⟩:=e
   have:=(sw_none n hn (2*n+1) h F hh h1 s (by omega) (by rw [he];exact hc)).2 (s+n) (by omega) (by omega)
   apply this
   rw [←Nat.add_assoc,Nat.add_mod_right]
 · exact h1
set_option maxHeartbeats 1000000
def PB (P B M:Nat):Nat→Prop:=fun k=>k=P∨k=B∨k=M
def putF (F:Nat→Fr) (k:Nat) (f:Fr):Nat→Fr:=fun i=>if i=k then f else F i
section
variable {w w':World} {P B M n:Nat} {F F':Nat→Fr} {h:Nat} {g:Int→Option Nat} {c:Nat}
theorem PoolAt.ltP (p:PoolAt w P B M n F h g c):P<w.heap.size:=lt_of_cell p.l0
theorem PoolAt.ltB (p:PoolAt w P B M n F h g c):B<w.heap.size:=lt_of_cell (p.fr 0 p.pos).c0
theorem PoolAt.ltM (p:PoolAt w P B M n F h g c):M<w.heap.size:=p.mp.lt
theorem PoolAt.neM (p:PoolAt w P B M n F h g c):P≠M∧B≠M:=by
 refine ⟨fun e=>?_,fun e=>?_⟩
 · have h1:=p.l0
   rw [e,p.mp.no_cell] at h1
   cases h1
 · have h1:=(p.fr 0 p.pos).c0
   rw [e,p.mp.no_cell] at h1
   cases h1
theorem PoolAt.off {S:Nat→Prop} (p:PoolAt w P B M n F h g c) (ho:Off S w w') (h1:¬S P) (h2:¬S B) (h3:¬S M):PoolAt w' P B M n F h g c where
 l0:=(ho.cell p.ltP h1).trans p.l0
 l1:=(ho.cell p.ltP h1).trans p.l1
 l2:=(ho.cell p.ltP h1).trans p.l2
 lz:=fun i=>(ho.frozen p.ltP h1).trans (p.lz i)
 fr:=fun i hi=>⟨(ho.cell p.ltB h2).trans (p.fr i hi).c0,(ho.cell p.ltB h2).trans (p.fr i hi).c1,(ho.cell p.ltB h2).trans (p.fr i hi).c2,(ho.cell p.ltB h2).trans (p.fr i hi).c3,(ho.cell p.ltB h2).trans (p.fr i hi).c4⟩
 fz:=fun j=>(ho.frozen p.ltB h2).trans (p.fz j)
 mp:=p.mp.off ho h3
 ne:=p.ne
 pos:=p.pos
 most:=p.most
 hand:=p.hand
 kw:=p.kw
theorem PoolAt.up (p:PoolAt w P B M n F h g c) (hb:Below w.heap.size w w'):PoolAt w' P B M n F h g c:=p.off (S:=fun _=>False) (Off.of_below hb) id id id
theorem PoolAt.drew (p:PoolAt w P B M n F h g c):PoolAt w.drew P B M n F h g c:=p.up jB.drew
theorem PoolAt.frames (p:PoolAt w P B M n F h g c) (hf:FrS w' B n F') (hz:∀j,w'.frozen? ⟨B,j,none⟩=false) (ho:Off (· =B) w w') (hk:∀i,i<n→(Lit.int .i64 (F' i).key).wf=true):PoolAt w' P B M n F' h g c where
 l0:=(ho.cell p.ltP p.ne).trans p.l0
 l1:=(ho.cell p.ltP p.ne).trans p.l1
 l2:=(ho.cell p.ltP p.ne).trans p.l2
 lz:=fun i=>(ho.frozen p.ltP p.ne).trans (p.lz i)
 fr:=hf
 fz:=hz
 mp:=p.mp.off ho (fun e=>p.neM.2 e.symm)
 ne:=p.ne
 pos:=p.pos
 most:=p.most
 hand:=p.hand
 kw:=hk
theorem PoolAt.mapped {g':Int→Option Nat} {c':Nat} (p:PoolAt w P B M n F h g c) (hm:MapIs Tryz.prog 242 w' M (keyF g') c') (ho:Off (· =M) w w'):PoolAt w' P B M n F h g' c' where
 l0:=(ho.cell p.ltP p.neM.1).trans p.l0
 l1:=(ho.cell p.ltP p.neM.1).trans p.l1
 l2:=(ho.cell p.ltP p.neM.1).trans p.l2
 lz:=fun i=>(ho.frozen p.ltP p.neM.1).trans (p.lz i)
 fr:=fun i hi=>⟨(ho.cell p.ltB p.neM.2).trans (p.fr i hi).c0,(ho.cell p.ltB p.neM.2).trans (p.fr i hi).c1,(ho.cell p.ltB p.neM.2).trans (p.fr i hi).c2,(ho.cell p.ltB p.neM.2).trans (p.fr i hi).c3,(ho.cell p.ltB p.neM.2).trans (p.fr i hi).c4⟩
 fz:=fun j=>(ho.frozen p.ltB p.neM.2).trans (p.fz j)
 mp:=hm
 ne:=p.ne
 pos:=p.pos
 most:=p.most
 hand:=p.hand
 kw:=p.kw
theorem PoolAt.moved {h':Nat} (p:PoolAt w P B M n F h g c) (hh:h'<n):PoolAt (w.setCell ⟨P,2,none⟩ (.int .i64 h')) P B M n F h' g c where
 l0:=(World.cell?_setCell_other _ _ _ _ (by simp)).trans p.l0
 l1:=(World.cell?_setCell_other _ _ _ _ (by simp)).trans p.l1
 l2:=World.cell?_setCell_same _ _ _ p.l2
 lz:=fun i=>by rw [World.frozen?_setCell];exact p.lz i
 fr:=fun i hi=>by
  have hne:∀o,(⟨P,2,none⟩:Addr)≠⟨B,o,none⟩:=fun o e=>p.ne (by injection e)
  exact ⟨(World.cell?_setCell_other _ _ _ _ (hne _)).trans (p.fr i hi).c0,(World.cell?_setCell_other _ _ _ _ (hne _)).trans (p.fr i hi).c1,(World.cell?_setCell_other _ _ _ _ (hne _)).trans (p.fr i hi).c2,(World.cell?_setCell_other _ _ _ _ (hne _)).trans (p.fr i hi).c3,(World.cell?_setCell_other _ _ _ _ (hne _)).trans (p.fr i hi).c4⟩
 fz:=fun j=>by rw [World.frozen?_setCell];exact p.fz j
 mp:=p.mp.off (S:=(· =P)) ((Off.refl (· =P) w).setCell (p:=⟨P,2,none⟩) rfl _) (fun e=>p.neM.1 e.symm)
 ne:=p.ne
 pos:=p.pos
 most:=p.most
 hand:=hh
 kw:=p.kw
end
theorem FrS.put {w:World} {B n k:Nat} {F:Nat→Fr} {f:Fr} (h:FrS w B n F) (hk:k<n):
 FrS (((((w.setCell ⟨B,k*5,none⟩ (.int .i64 f.key)).setCell ⟨B,k*5+1,none⟩ (.bool f.used)).setCell ⟨B,k*5+2,none⟩ (.bool f.ref)).setCell ⟨B,k*5+3,none⟩ (.bool f.dirty)).setCell ⟨B,k*5+4,none⟩ (.int .i64 f.pins)) B n (putF F k f):=by
 intro i hi
 have hi5:=h i hi
 have hne:∀(r s:Nat),k*5+r≠s→(⟨B,k*5+r,none⟩:Addr)≠⟨B,s,none⟩:=by
  intro r s h1 he
  injection he with _ he
  exact h1 he
 have o:∀(W:World) (r s:Nat) (v:Value),k*5+r≠s→(W.setCell ⟨B,k*5+r,none⟩ v).cell? ⟨B,s,none⟩=W.cell? ⟨B,s,none⟩:=fun W r s v h1=>World.cell?_setCell_other _ _ _ _ (hne r s h1)
 have o0:∀(W:World) (s:Nat) (v:Value),k*5≠s→(W.setCell ⟨B,k*5,none⟩ v).cell? ⟨B,s,none⟩=W.cell? ⟨B,s,none⟩:=fun W s v h1=>o W 0 s v h1
 unfold putF
 by_cases hik:i=k
 · subst hik
   rw [if_pos rfl]
   refine ⟨?_,?_,?_,?_,?_⟩
   · rw [o _ 4 _ _ (by omega),o _ 3 _ _ (by omega),o _ 2 _ _ (by omega),o _ 1 _ _ (by omega)]
     exact World.cell?_setCell_same _ _ _ hi5.c0
   · rw [o _ 4 _ _ (by omega),o _ 3 _ _ (by omega),o _ 2 _ _ (by omega)]
     exact World.cell?_setCell_same _ _ _ ((o0 _ _ _ (by omega)).trans hi5.c1)
   · rw [o _ 4 _ _ (by omega),o _ 3 _ _ (by omega)]
     exact World.cell?_setCell_same _ _ _ ((o _ 1 _ _ (by omega)).trans ((o0 _ _ _ (by omega)).trans hi5.c2))
   · rw [o _ 4 _ _ (by omega)]
     exact World.cell?_setCell_same _ _ _ ((o _ 2 _ _ (by omega)).trans ((o _ 1 _ _ (by omega)).trans ((o0 _ _ _ (by omega)).trans hi5.c3)))
   · exact World.cell?_setCell_same _ _ _ ((o _ 3 _ _ (by omega)).trans ((o _ 2 _ _ (by omega)).trans ((o _ 1 _ _ (by omega)).trans ((o0 _ _ _ (by omega)).trans hi5.c4))))
 · rw [if_neg hik]
   have all:∀s,i*5≤s→s<i*5+5→(((((w.setCell ⟨B,k*5,none⟩ (.int .i64 f.key)).setCell ⟨B,k*5+1,none⟩ (.bool f.used)).setCell ⟨B,k*5+2,none⟩ (.bool f.ref)).setCell ⟨B,k*5+3,none⟩ (.bool f.dirty)).setCell ⟨B,k*5+4,none⟩ (.int .i64 f.pins)).cell? ⟨B,s,none⟩=w.cell? ⟨B,s,none⟩:=by
    intro s h1 h2
    rw [o _ 4 _ _ (by omega),o _ 3 _ _ (by omega),o _ 2 _ _ (by omega),o _ 1 _ _ (by omega),o0 _ _ _ (by omega)]
   exact ⟨(all _ (by omega) (by omega)).trans hi5.c0,(all _ (by omega) (by omega)).trans hi5.c1,(all _ (by omega) (by omega)).trans hi5.c2,(all _ (by omega) (by omega)).trans hi5.c3,(all _ (by omega) (by omega)).trans hi5.c4⟩
theorem PoolAt.put {w:World} {P B M n:Nat} {F:Nat→Fr} {h:Nat} {g:Int→Option Nat} {c k:Nat} {f:Fr} (p:PoolAt w P B M n F h g c) (hk:k<n) (hw:(Lit.int .i64 f.key).wf=true):
 PoolAt (((((w.setCell ⟨B,k*5,none⟩ (.int .i64 f.key)).setCell ⟨B,k*5+1,none⟩ (.bool f.used)).setCell ⟨B,k*5+2,none⟩ (.bool f.ref)).setCell ⟨B,k*5+3,none⟩ (.bool f.dirty)).setCell ⟨B,k*5+4,none⟩ (.int .i64 f.pins)) P B M n (putF F k f) h g c:=by
 refine p.frames (FrS.put p.fr hk) (fun j=>by simp only [World.frozen?_setCell];exact p.fz j) ?_ (fun i hi=>?_)
 · exact (((((Off.refl (· =B) w).setCell (p:=⟨B,k*5,none⟩) rfl _).setCell (p:=⟨B,k*5+1,none⟩) rfl _).setCell (p:=⟨B,k*5+2,none⟩) rfl _).setCell (p:=⟨B,k*5+3,none⟩) rfl _).setCell (p:=⟨B,k*5+4,none⟩) rfl _
 · unfold putF
   split
   · exact hw
   · exact p.kw i hi
set_option maxHeartbeats 1000000
def Fr.new (key:Int):Fr:=⟨key,true,true,false,0⟩
structure TakeR where
 frame:Int
 out:Fr
 given:Bool
 e:Int
 F:Nat→Fr
 h:Nat
 g:Int→Option Nat
def TakeR.val (r:TakeR):Value:=.tuple #[.int .i64 r.frame,r.out.val,.bool r.given,.int .i64 r.e]
def freeAt (F:Nat→Fr) (n:Nat):Int:=first (fun i=>!(F i).used) n
def loose (F:Nat→Fr) (n:Nat):Bool:=decide (0≤first (fun i=>(F i).pins==0) n)
def takeR (n:Nat) (F:Nat→Fr) (h:Nat) (g:Int→Option Nat) (key:Int):TakeR:=
 if (g key).isSome then ⟨0,Fr.zero,false,3,F,h,g⟩
 else if 0≤freeAt F n then ⟨freeAt F n,Fr.zero,false,0,putF F (freeAt F n).toNat (Fr.new key),h,upd g key (some (freeAt F n).toNat)⟩
 else if loose F n then
  let r:=(sw n (2*n+1) h F).1.toNat
  let F':=(sw n (2*n+1) h F).2
  ⟨r,F' r,true,0,putF F' r (Fr.new key),(r+1)%n,upd (upd g (F' r).key none) key (some r)⟩
 else ⟨0,Fr.zero,false,10,F,h,g⟩
def TakePost (P B M n:Nat) (r:TakeR) (w:World) (e:Ending) (w':World):Prop:=
 e=.returned r.val∧(∃c',PoolAt w' P B M n r.F r.h r.g c')∧Off (PB P B M) w w'
def ROut (w:World) (R:Nat) (f:Fr):Prop:=w.heap[R]? =some (.cells #[.int .i64 f.key,.bool f.used,.bool f.ref,.bool f.dirty,.int .i64 f.pins] 214 (0,0))
theorem ROut.frozen {w:World} {R:Nat} {f:Fr} (h:ROut w R f) (i:Nat):w.frozen? ⟨R,i,none⟩=false:=by
 unfold ROut at h
 simp [World.frozen?,h]
theorem ROut.lt {w:World} {R:Nat} {f:Fr} (h:ROut w R f):R<w.heap.size:=(Array.getElem?_eq_some_iff.1 h).1
theorem ROut.cells {w:World} {R:Nat} {f:Fr} (h:ROut w R f):w.cell? ⟨R,0,none⟩=some (.int .i64 f.key)∧w.cell? ⟨R,1,none⟩=some (.bool f.used)∧w.cell? ⟨R,2,none⟩=some (.bool f.ref)∧w.cell? ⟨R,3,none⟩=some (.bool f.dirty)∧w.cell? ⟨R,4,none⟩=some (.int .i64 f.pins):=by
 simp only [cell_of_row _ _ _ _ _ _ h]
 exact ⟨rfl,rfl,rfl,rfl,rfl⟩
theorem off_out (w:World) (R:Nat) (v0 v1 v2 v3 v4:Value):Off (· =R) w (((((w.setCell ⟨R,0,none⟩ v0).setCell ⟨R,1,none⟩ v1).setCell ⟨R,2,none⟩ v2).setCell ⟨R,3,none⟩ v3).setCell ⟨R,4,none⟩ v4):=
 (((((Off.refl (· =R) w).setCell (p:=⟨R,0,none⟩) rfl v0).setCell (p:=⟨R,1,none⟩) rfl v1).setCell (p:=⟨R,2,none⟩) rfl v2).setCell (p:=⟨R,3,none⟩) rfl v3).setCell (p:=⟨R,4,none⟩) rfl v4
theorem take_done {w w3 W:World} {P B M n c R:Nat} {r:TakeR} {e:Ending} (p:PoolAt w3 P B M n r.F r.h r.g c) (o:Off (PB P B M) w w3) (h1:R≠P) (h2:R≠B) (h3:R≠M) (hR:w.heap.size≤R) (he:e=.returned r.val) (ho:Off (· =R) w3 W):TakePost P B M n r w e W:=
 ⟨he,⟨c,p.off ho (fun e=>h1 e.symm) (fun e=>h2 e.symm) (fun e=>h3 e.symm)⟩,o.late ho (fun i hi e=>by omega)⟩
section
variable {w:World} {P B M n:Nat} {F:Nat→Fr} {h:Nat} {g:Int→Option Nat} {c:Nat} {key:Int}
theorem Take_used (p:PoolAt w P B M n F h g c) (hk:(Lit.int .i64 key).wf=true) (hg:(g key).isSome=true):
 Calls Tryz.prog 124 #[.pointer (some ⟨P,0,none⟩),.int .i64 key] w (TakePost P B M n (takeR n F h g key) w):=by
 have HP:=hJ p
 have HR:Hid (takeR n F h g key=⟨0,Fr.zero,false,3,F,h,g⟩):=by unfold takeR;rw [if_pos hg];rfl
 have p0:PoolAt (w.alloc (.cells #[.int .i64 0,.bool false,.bool false,.bool false,.int .i64 0] 214)) P B M n F h g c:=p.up (jB.alloc jN _)
 have HF:=hJ (Find_any p0 hk)
 clear p p0
 go_enter Tryz.func124,Tryz.ntmps124
 go_wp2_with fail
 refine HF.out.mono ?_
 rintro e w1 ⟨rfl,rfl⟩
 unfold findV
 rw [hg]
 go_wp2
 refine bodyPost_ret (v:=.tuple #[.int .i64 0,.agg #[.int .i64 0,.bool false,.bool false,.bool false,.int .i64 0],.bool false,.int .i64 3]) (by simp [results,Tryz.results124,go_sem]) rfl ?_
 rw [HR.out]
 refine ⟨rfl,⟨c,?_⟩,?_⟩
 · exact HP.out.up (by go_grown)
 · exact Off.of_below (by go_grown)
theorem Take_free {j:Nat} (p:PoolAt w P B M n F h g c) (hk:(Lit.int .i64 key).wf=true) (hg:(g key).isSome=false) (hj:freeAt F n=j) (hjn:j<n):
 Calls Tryz.prog 124 #[.pointer (some ⟨P,0,none⟩),.int .i64 key] w (TakePost P B M n (takeR n F h g key) w):=by
 have HP:=hJ p
 have HR:Hid (takeR n F h g key=⟨j,Fr.zero,false,0,putF F j (Fr.new key),h,upd g key (some j)⟩):=by unfold takeR;rw [if_neg (by rw [hg];exact Bool.false_ne_true),hj,if_pos (by omega)];rfl
 have p0:PoolAt (w.alloc (.cells #[.int .i64 0,.bool false,.bool false,.bool false,.int .i64 0] 214)) P B M n F h g c:=p.up (jB.alloc jN _)
 have HF:=hJ (Find_any p0 hk)
 have HI:=hJ (IndexFunc_any 160 (fun f=>!f.used) cf1 (fun f w=>notUsed_any f w) _ B n F p.most p0.fr)
 have HJ:=hJ hj
 have hn:=p.most
 have l0:=p0.l0
 have ltw:=p.ltP
 have ltb:=p.ltB
 have HP0:=hJ p0
 clear p p0 hj
 go_enter Tryz.func124,Tryz.ntmps124
 go_wp2_with fail
 refine HF.out.mono ?_
 rintro e w1 ⟨rfl,rfl⟩
 unfold findV
 rw [hg]
 go_wp2_with fail
 refine HI.out.mono ?_
 rintro e w1 ⟨rfl,hb1⟩
 rw [show first (fun i=>!(F i).used) n=(j:Int) from HJ.out]
 have p1:=HP0.out.up hb1
 have r1:ROut w1 w.heap.size Fr.zero:=(hb1.block _ (by simp)).trans (heap_alloc_new w _)
 have o1:Off (PB P B M) w w1:=(Off.of_below (jB.alloc jN _)).step hb1
 obtain ⟨c0,c1,c2,c3,c4⟩:=p1.fr j hjn
 have z0:=p1.fz (j*5)
 have z1:=p1.fz (j*5+1)
 have z2:=p1.fz (j*5+2)
 have z3:=p1.fz (j*5+3)
 have z4:=p1.fz (j*5+4)
 have l0':=p1.l0
 have HX:Hid (∀W,W=(((((w1.setCell ⟨B,j*5,none⟩ (.int .i64 key)).setCell ⟨B,j*5+1,none⟩ (.bool true)).setCell ⟨B,j*5+2,none⟩ (.bool true)).setCell ⟨B,j*5+3,none⟩ (.bool false)).setCell ⟨B,j*5+4,none⟩ (.int .i64 0))→PoolAt W P B M n (putF F j (Fr.new key)) h g c∧ROut W w.heap.size Fr.zero∧Off (PB P B M) w W):=by
  rintro W rfl
  have hB:∀o,PB P B M (⟨B,o,none⟩:Addr).block:=fun o=>.inr (.inl rfl)
  have hR:w.heap.size≠B:=by omega
  refine ⟨p1.put (f:=Fr.new key) hjn hk,?_,((((o1.setCell (hB _) _).setCell (hB _) _).setCell (hB _) _).setCell (hB _) _).setCell (hB _) _⟩
  unfold ROut
  rw [Below.heap_setCell _ _ _ _ hR,Below.heap_setCell _ _ _ _ hR,Below.heap_setCell _ _ _ _ hR,Below.heap_setCell _ _ _ _ hR,Below.heap_setCell _ _ _ _ hR]
  exact r1
 clear p1 r1 o1 hb1 l0
 go_upto_region 13 with (fail)
 refine wp_forget (fun W=>PoolAt W P B M n (putF F j (Fr.new key)) h g c∧ROut W w.heap.size Fr.zero∧Off (PB P B M) w W) (HX.out _ rfl) ?_
 clear HX c0 c1 c2 c3 c4 z0 z1 z2 z3 z4 l0' w1
 rintro w2 ⟨p2,r2,o2⟩
 obtain ⟨l,hl⟩:=name_key hk
 obtain ⟨w3,hrun,hm,ho⟩:=p2.mp.put (val:=.int .i64 j) nameKeyed Tryz.underlying218 hl
 rw [keyF_put] at hm
 have l1:=p2.l1
 have HQ:Hid (PoolAt w3 P B M n (putF F j (Fr.new key)) h (upd g key (some j)) _∧ROut w3 w.heap.size Fr.zero∧Off (PB P B M) w w3):=
  ⟨p2.mapped hm ho,(ho.block _ (by have:=o2.size;have:=(Array.getElem?_eq_some_iff.1 r2).1;omega) (by have:=HP0.out.ltM;intro e;have:=HP.out.ltM;omega)).trans r2,o2.trans (ho.mono fun k e=>.inr (.inr e))⟩
 clear p2 r2 o2 hm ho hl
 go_wp2
 obtain ⟨p3,r3,o3⟩:=HQ.out
 obtain ⟨d0,d1,d2,d3,d4⟩:=r3.cells
 have y0:=r3.frozen 0
 have y1:=r3.frozen 1
 have y2:=r3.frozen 2
 have y3:=r3.frozen 3
 have y4:=r3.frozen 4
 have HP3:=hJ p3
 have HO3:=hJ o3
 clear p3 r3 o3 HQ
 simp only [Fr.zero] at d0 d1 d2 d3 d4
 go_region
 go_wp2
 refine bodyPost_ret (v:=.tuple #[.int .i64 j,.agg #[.int .i64 0,.bool false,.bool false,.bool false,.int .i64 0],.bool false,.int .i64 0]) (by simp [results,Tryz.results124,go_sem,d0,d1,d2,d3,d4]) rfl ?_
 rw [HR.out]
 refine take_done HP3.out HO3.out (R:=w.heap.size) (by omega) (by omega) (by have:=HP.out.ltM;omega) jN rfl ?_
 exact (off_out _ _ _ _ _ _ _).drew
end
end Go.Proofs.YtlhfjaagkgengaaGreat
