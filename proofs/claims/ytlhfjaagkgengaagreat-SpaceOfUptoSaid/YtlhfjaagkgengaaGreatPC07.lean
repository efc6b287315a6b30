/- The plain law of FramesKeys. A pool of frames: Victim (picked out of frames' texts by pick.py). A sink that keeps what it took, plainly; bytes 0 (picked out of radix's and blobs' texts by pick.py; the -/
import Derived.Test.YtlhfjaagkgengaaGreatPC06
import Derived.Test.YtlhfjaagkgengaaGreatPC04
import Derived.Deep.AppendLies
import Derived.Deep.RegionHeld3
import Derived.Maps.OwnOps
namespace Go.Proofs.YtlhfjaagkgengaaGreat
set_option maxRecDepth 100000
set_option maxHeartbeats 4000000
open Go.RowKit Go.Maps
set_option linter.unusedVariables false
set_option linter.unusedSimpArgs false
structure KInv (n:Nat) (F:Nat→Fr) (g:Int→Option Nat):Prop where
 good:Good n F g
 pins:∀j,j<n→0≤(F j).pins∧(F j).pins≤1048576
theorem cntF_congr {q:Fr→Bool} {F F':Nat→Fr}:∀{k:Nat},(∀j,j<k→q (F j)=q (F' j))→cntF q F k=cntF q F' k
 |0,_=>rfl
 | k+1,h=>by
   unfold cntF
   rw [cntF_congr (fun j hj=>h j (by omega)),h k (by omega)]
theorem cntF_out {q:Fr→Bool} {F:Nat→Fr} {f:Fr} {k j:Nat} (hj:k≤j):cntF q (putF F j f) k=cntF q F k:=
 cntF_congr fun i hi=>by unfold putF;rw [if_neg (by omega)]
theorem cntF_put {q:Fr→Bool} {F:Nat→Fr} {f:Fr} {j:Nat}:∀{k:Nat},j<k→cntF q (putF F j f) k+(q (F j)).toNat=cntF q F k+(q f).toNat
 |0,h=>by omega
 | k + 1,h=>by
   unfold cntF
   rcases Nat.lt_or_ge j k with h1|h1
   · have:=cntF_put (q:=q) (F:=F) (f:=f) h1
     have e:putF F j f k=F k:=by unfold putF;rw [if_neg (by omega)]
     rw [e]
     omega
   · have:j=k:=by omega
     subst this
     rw [cntF_out jN]
     have e:putF F j f j=f:=by unfold putF;rw [if_pos rfl]
     rw [e]
     cases q f<;>cases q (F j)<;>simp
theorem Good.same {n:Nat} {F F':Nat→Fr} {g:Int→Option Nat} (G:Good n F g) (h:∀j,j<n→(F' j).key=(F j).key∧(F' j).used=(F j).used):Good n F' g:=
 ⟨fun j hj hu=>by rw [(h j hj).1];exact G.a j hj (by rw [←(h j hj).2];exact hu),fun k j hg=>by
  obtain ⟨h1,h2,h3⟩:=G.b k j hg
  exact ⟨h1,by rw [(h j h1).2];exact h2,by rw [(h j h1).1];exact h3⟩⟩
theorem Good.drop {n f:Nat} {F:Nat→Fr} {g:Int→Option Nat} (G:Good n F g) (hf:f<n) (hu:(F f).used=true):Good n (putF F f Fr.zero) (upd g (F f).key none):=by
 refine ⟨fun j hj h=>?_,fun k j h=>?_⟩
 · unfold putF at h ⊢
   by_cases h1:j=f
   · rw [if_pos h1] at h;cases h
   · rw [if_neg h1] at h ⊢
     unfold upd
     rw [if_neg,G.a j hj h]
     intro e
     have h2:=G.a j hj h
     rw [e,G.a f hf hu] at h2
     exact h1 (Option.some.inj h2).symm
 · unfold upd at h
   split at h
   · cases h
   · rename_i hne
     obtain ⟨h1,h2,h3⟩:=G.b k j h
     have hjf:j≠f:=fun e=>hne (by rw [←h3,e])
     unfold putF
     rw [if_neg hjf]
     exact ⟨h1,h2,h3⟩
inductive KT (n:Nat) (F:Nat→Fr) (h:Nat) (g:Int→Option Nat) (key:Int):Prop
 |used (hg:(g key).isSome=true) (ht:TakeIs n (takeR n F h g key) 0 Fr.zero false 3 F h g)
 |free (j:Nat) (hg:g key=none) (hj:j<n) (hno:∀k,g k≠some j) (ht:TakeIs n (takeR n F h g key) j Fr.zero false 0 (putF F j (Fr.new key)) h (upd g key (some j)))
  (hi:KInv n (putF F j (Fr.new key)) (upd g key (some j))) (hc:cntF qUsed (putF F j (Fr.new key)) n=cntF qUsed F n+1)
 |full (hg:g key=none) (ht:TakeIs n (takeR n F h g key) 0 Fr.zero false 10 F h g)
 |give (r:Nat) (out:Fr) (F':Nat→Fr) (h':Nat) (hg:g key=none) (hr:r<n) (ho:g out.key=some r) (hp:out.pins=0) (hu:out.used=true) (hf:out.ref=false)
  (hkey:∃j,j<n∧out.key=(F j).key) (hno:∀k,upd g out.key none k≠some r) (ht:TakeIs n (takeR n F h g key) r out true 0 F' h' (upd (upd g out.key none) key (some r)))
  (hi:KInv n F' (upd (upd g out.key none) key (some r))) (hc:cntF qUsed F' n=cntF qUsed F n)
theorem kt {n h:Nat} {F:Nat→Fr} {g:Int→Option Nat} {key:Int} (I:KInv n F g) (hh:h<n):KT n F h g key:=by
 cases hg0:g key with
 | some x=>
   refine KT.used (by rw [hg0];rfl) ?_
   have e:takeR n F h g key=⟨0,Fr.zero,false,3,F,h,g⟩:=by unfold takeR;rw [hg0];rfl
   rw [e]
   exact ⟨rfl,rfl,rfl,rfl,fun _ _=>rfl,rfl,fun _=>rfl⟩
 | none=>
   rcases first_spec (fun i=>!(F i).used) n with ⟨h1,h2⟩|⟨j,h1,h2,h3,h4⟩
   · have hu:∀i,i<n→(F i).used=true:=fun i hi=>by simpa using h2 i hi
     cases hl:loose F n
     · refine KT.full hg0 ?_
       have e:takeR n F h g key=⟨0,Fr.zero,false,10,F,h,g⟩:=by
        unfold takeR
        rw [hg0,show freeAt F n= -1 from h1,hl];simp
       rw [e]
       exact ⟨rfl,rfl,rfl,rfl,fun _ _=>rfl,rfl,fun _=>rfl⟩
     · have hc:∃i,i<n∧(F i).pins=0:=by
        unfold loose at hl
        rcases first_spec (fun i=>(F i).pins==0) n with ⟨k1,k2⟩|⟨j,k1,k2,k3,k4⟩
        · rw [k1] at hl;cases hl
        · exact ⟨j,k2,by simpa using k3⟩
       obtain ⟨i,hi,hpi⟩:=hc
       obtain ⟨r,s1,s2,s3,s4⟩:=sw_some hh hi (show (F i).cand=true by simp [Fr.cand,hu i hi,hpi])
       have hcl:=(sw_form n (by omega) (2*n+1) h F hh).1
       obtain ⟨F1,hF1⟩:∃F1,F1=(sw n (2*n+1) h F).2:=⟨_,rfl⟩
       rw [←hF1] at s3 s4 hcl
       have hs:sw n (2*n+1) h F=((r:Int),F1):=by rw [hF1,←s1]
       have hu1:(F1 r).used=true:=by rw [(hcl r).2.1];exact hu r s2
       have G:=Good.put I.good hcl s2 hg0
       rw [hu1] at G
       simp only [if_true] at G
       have hor:g (F1 r).key=some r:=by rw [(hcl r).1];exact I.good.a r s2 (hu r s2)
       have hpin:=I.pins r s2
       rw [←(hcl r).2.2.2.1] at hpin
       have hp0:(F1 r).pins=0:=by
        simp [Fr.cand,hu1] at s3
        omega
       refine KT.give r (F1 r) (putF F1 r (Fr.new key)) _ hg0 s2 hor hp0 hu1 s4 ⟨r,s2,(hcl r).1⟩ (fun k he=>?_) (take_give hg0 hu ⟨i,hi,hpi⟩ hs rfl (fun j hj=>rfl) (fun x=>rfl)) ⟨G,fun j hj=>?_⟩ ?_
       · unfold upd at he
         split at he
         · cases he
         · rename_i hne
           exact hne (by rw [(hcl r).1,←(I.good.b k r he).2.2])
       · unfold putF
         split
         · simp [Fr.new]
         · rw [(hcl j).2.2.2.1];exact I.pins j hj
       · have e1:=cntF_put (q:=qUsed) (F:=F1) (f:=Fr.new key) s2
         have e2:cntF qUsed F1 n=cntF qUsed F n:=cntF_congr fun j _=>(hcl j).2.1
         have e3:qUsed (F1 r)=true:=hu1
         have e4:qUsed (Fr.new key)=true:=rfl
         rw [e3,e4] at e1
         omega
   · have hju:(F j).used=false:=by simpa using h3
     have hno:∀k,g k≠some j:=fun k he=>by have:=(I.good.b k j he).2.1;rw [hju] at this;cases this
     have G:=Good.put I.good (Cleared.refl F) h2 hg0
     rw [hju] at G
     simp only [Bool.false_eq_true,if_false] at G
     refine KT.free j hg0 h2 hno (take_free hg0 h2 hju (fun i hi=>by simpa using h4 i hi) (fun _ _=>rfl) (fun _=>rfl)) ⟨G,fun i hi=>?_⟩ ?_
     · unfold putF
       split
       · simp [Fr.new]
       · exact I.pins i hi
     · have e1:=cntF_put (q:=qUsed) (F:=F) (f:=Fr.new key) h2
       have e3:qUsed (F j)=false:=hju
       have e4:qUsed (Fr.new key)=true:=rfl
       rw [e3,e4] at e1
       simpa using e1
set_option maxRecDepth 100000
set_option maxHeartbeats 4000000
def anyC (F:Nat→Fr):Nat→Bool
 |0=>false
 |k+1=>anyC F k||((F k).used && (F k).pins==0)
theorem anyC_iff (F:Nat→Fr) (k:Nat):anyC F k=true ↔ ∃i,i<k∧(F i).used=true∧(F i).pins=0:=by
 induction k with
 |zero=>simp [anyC]
 | succ k ih=>
   unfold anyC
   rw [Bool.or_eq_true,ih]
   constructor
   · rintro (⟨i,h1,h2⟩|h)
     · exact ⟨i,by omega,h2⟩
     · simp at h
       exact ⟨k,by omega,h⟩
   · rintro ⟨i,h1,h2,h3⟩
     rcases Nat.lt_or_ge i k with h|h
     · exact .inl ⟨i,h,h2,h3⟩
     · have:i=k:=by omega
       subst this
       simp [h2,h3]
def Fr.cells (f:Fr):List Value:=[.int .i64 f.key,.bool f.used,.bool f.ref,.bool f.dirty,.int .i64 f.pins]
def rowF (F:Nat→Fr):Nat→List Value
 |0=>[]
 |t+1=>rowF F t ++ (F t).cells
theorem rowF_len (F:Nat→Fr) (t:Nat):(rowF F t).length=t*5:=by
 induction t with
 |zero=>rfl
 |succ t ih=>simp [rowF,ih,Fr.cells];omega
theorem rowF_at (F:Nat→Fr) (t k r:Nat) (hk:k<t) (hr:r<5):(rowF F t)[k*5+r]? =(F k).cells[r]? :=by
 induction t with
 |zero=>omega
 | succ t ih=>
   unfold rowF
   rcases Nat.lt_or_ge k t with h|h
   · rw [List.getElem?_append_left (by rw [rowF_len];omega),ih h]
   · have:k=t:=by omega
     subst this
     rw [List.getElem?_append_right (by rw [rowF_len];omega),rowF_len]
     congr 1
     omega
theorem rowF_one (F:Nat→Fr) (t:Nat):∀u∈rowF F t,u.oneCell'=true:=by
 induction t with
 |zero=>simp [rowF]
 | succ t ih=>
   intro u hu
   unfold rowF at hu
   rcases List.mem_append.1 hu with h|h
   · exact ih u h
   · simp [Fr.cells] at h
     rcases h with rfl|rfl|rfl|rfl|rfl<;>rfl
theorem FrS.row {w:World} {B n:Nat} {F:Nat→Fr} (h:FrS w B n F):∀j u,(rowF F n)[j]? =some u→w.cell? ((⟨B,0,none⟩:Addr).add j)=some u:=by
 intro j u hu
 have hj:j<n*5:=by
  have:=(jS.1 hu).1
  rwa [rowF_len] at this
 have e:(⟨B,0,none⟩:Addr).add j=⟨B,j,none⟩:=by
  unfold Addr.add
  split
  · rename_i h;rw [h]
  · simp
 have hq:j / 5*5+j%5=j:=by omega
 have hk:j / 5<n:=by omega
 have hf:=h (j / 5) hk
 have hr:=rowF_at F n (j / 5) (j%5) hk (by omega)
 rw [hq,hu] at hr
 rw [e]
 have h5:j%5=0∨j%5=1∨j%5=2∨j%5=3∨j%5=4:=by omega
 rcases h5 with h5|h5|h5|h5|h5
 · have hc:=hf.c0
   rw [h5] at hr hq
   rw [show j / 5*5=j by omega] at hc
   rw [hc,hr];rfl
 · have hc:=hf.c1
   rw [h5] at hr hq
   rw [hq] at hc
   rw [hc,hr];rfl
 · have hc:=hf.c2
   rw [h5] at hr hq
   rw [hq] at hc
   rw [hc,hr];rfl
 · have hc:=hf.c3
   rw [h5] at hr hq
   rw [hq] at hc
   rw [hc,hr];rfl
 · have hc:=hf.c4
   rw [h5] at hr hq
   rw [hq] at hc
   rw [hc,hr];rfl
theorem frS_own {w:World} {base e g n cap:Nat} {F:Nat→Fr} (h:w.ownsRow base e 5 (.slice (some ⟨g,0,none⟩) n cap) n (rowF F n)):FrS w g n F∧∀j,w.frozen? ⟨g,j,none⟩=false:=by
 refine ⟨fun i hi=>?_,fun j=>h.frozenAt j⟩
 have e:∀r,r<5→w.cell? ⟨g,i*5+r,none⟩=(F i).cells[r]? :=fun r hr=>by
  rw [h.cellAt (i*5+r) (by omega),rowF_at F n i r hi hr]
 exact ⟨e 0 (by omega),e 1 (by omega),e 2 (by omega),e 3 (by omega),e 4 (by omega)⟩
def ClonePost (n:Nat) (F:Nat→Fr) (w:World) (e:Ending) (w':World):Prop:=
 ∃g cap,e=.returned (.slice (some ⟨g,0,none⟩) n cap)∧FrS w' g n F∧(∀j,w'.frozen? ⟨g,j,none⟩=false)∧w.heap.size≤g∧Below w.heap.size w w'
theorem Clone_any (w:World) (B n K:Nat) (F:Nat→Fr) (hp:0<n) (hn:n≤4096) (hF:FrS w B n F):
 Calls Tryz.prog 139 #[.slice (some ⟨B,0,none⟩) n K] w (ClonePost n F w):=by
 obtain ⟨i0,hi,hz0,hz1,hz2⟩:=info_parts frame_info
 have HF:=hJ hF
 have hB:=lt_of_cell (hF 0 hp).c0
 clear hF
 have hnil:=Lib.run_eql_slice_nil (P:=Tryz.prog) w 217 214 (some ⟨B,0,none⟩) n K 0 0 Tryz.underlying217
 go_enter Tryz.func139,Tryz.ntmps139
 go_wp2_with (at_builtin;go_must (refine wpList_append_lies _ rfl (.tmp 5) (.tmp 6) 217 rfl w.heap.size 214 i0 _ 5 24 Tryz.underlying217 hi hz0 hz1 hz2 rfl (by omega) _ 0 [] rfl (World.ownsRow_made w #[] 0 jN (by unfold maxLen;omega) (by simp)) ⟨B,0,none⟩ n K (rowF F n) rfl (rowF_len F n) (FrS.row (fun i hi=>(HF.out i hi).up (jB.alloc jN _))) (rowF_one F n) hp (by unfold maxLen;omega) (by omega) (by simp) (w.heap.size+1) (by simp) ?_);intro gg cap w1 hown hgrow hat hlt)
 simp only [List.nil_append,Nat.zero_add] at hown
 obtain ⟨f1,f2⟩:=frS_own hown
 have HX:Hid (ClonePost n F w (.returned (.slice (some ⟨gg,0,none⟩) n cap)) w1):=by
  refine ⟨gg,cap,rfl,f1,f2,(hown.lt gg rfl).1,Below.grown (jB.alloc jN _) hgrow (by simp) fun k hk=>?_⟩
  have h1:some w.heap.size=some k:=hk
  have h2:=Option.some.inj h1
  omega
 clear hown hgrow hat hlt f1 f2
 go_wp2
 go_ret
 exact HX.out
theorem vic_cases {n h:Nat} {F:Nat→Fr} {g:Int→Option Nat} (I:KInv n F g) (hh:h<n):
 (anyC F n=false∧(sw n (2*n+1) h F).1= -1)∨∃r:Nat,anyC F n=true∧r<n∧sw n (2*n+1) h F=((r:Int),(sw n (2*n+1) h F).2):=by
 cases hc:anyC F n
 · refine .inl ⟨rfl,?_⟩
   obtain ⟨h1,h2⟩:=sw_form n (by omega) (2*n+1) h F hh
   rcases h2 with h2|⟨r,h2,h3,h4,h5⟩
   · exact h2
   · exfalso
     rw [h1.cand r] at h4
     have hp:=I.pins r h3
     simp [Fr.cand] at h4
     have:anyC F n=true:=(anyC_iff F n).2 ⟨r,h3,h4.1,by omega⟩
     rw [hc] at this
     cases this
 · obtain ⟨i,h1,h2,h3⟩:=(anyC_iff F n).1 hc
   obtain ⟨r,k1,k2,k3,k4⟩:=sw_some hh h1 (show (F i).cand=true by simp [Fr.cand,h2,h3])
   exact .inr ⟨r,rfl,k2,by rw [←k1]⟩
def vicV (i:Int):Value:=.tuple #[.int .i64 (if 0≤i then i else 0),.bool (decide (0≤i))]
def VPost (i:Int) (w:World) (e:Ending) (w':World):Prop:=e=.returned (vicV i)∧Below w.heap.size w w'
section
variable {w:World} {P B M n K:Nat} {F:Nat→Fr} {h:Nat} {g:Int→Option Nat} {c:Nat}
theorem Victim_any (p:PoolAt w P B M n F h g c) (I:KInv n F g):
 Calls Tryz.prog 90 #[.pointer (some ⟨P,0,none⟩)] w (VPost (sw n (2*n+1) h F).1 w):=by
 have l0:=p.l0
 have l2:=p.l2
 have hn:=p.most
 have hpos:=p.pos
 have hh:=p.hand
 have ltP:=p.ltP
 have HV:=hJ (vic_cases I p.hand)
 have HC:=hJ (Clone_any w.drew B n n F p.pos p.most p.drew.fr)
 clear p I
 go_enter Tryz.func90,Tryz.ntmps90
 go_wp2
 go_region_held3 (fun w'=>w'.cell? ⟨P,0,none⟩=some (.slice (some ⟨B,0,none⟩) n n)∧w'.cell? ⟨P,2,none⟩=some (.int .i64 h))
  (first|exact ⟨K0,K1⟩|go_keep)
  (first|(go_at_call 139;refine HC.out.mono ?_;rintro e w2 ⟨gg,cap,rfl,hfr,hfz,hge,hb⟩;have K0:=(hb.cell (p:=⟨P,0,none⟩) ltP).trans l0;have K1:=(hb.cell (p:=⟨P,2,none⟩) ltP).trans l2;have HFR:=hJ hfr;have HFZ:=hJ hfz;have HB:=hJ hb;clear hfr hfz hb)|(go_at_call 138;refine (sweep_any w2 gg n h F hn hpos hh HFR.out HFZ.out).mono ?_;rintro e w3 ⟨rfl,_,_,ho⟩;have K0:=(ho.cell (p:=⟨P,0,none⟩) (lt_of_cell K0) (by show ¬P=gg;simp at hge;omega)).trans K0;have K1:=(ho.cell (p:=⟨P,2,none⟩) (lt_of_cell K1) (by show ¬P=gg;simp at hge;omega)).trans K1;have HO:=hJ ho;clear ho))
 have HBB:Hid (Below w.heap.size w w3):=(jB.drew.trans HB.out).trans (HO.out.below (fun k e=>e ▸ hge) HB.out.size)
 clear HC HB HO HFR HFZ
 rcases HV.out with ⟨_,hv⟩|⟨r,_,hr,hv⟩
 · rw [hv]
   have HW:=hJ hv
   clear HV hv
   go_wp2
   go_ret2
   exact ⟨by rw [HW.out];rfl,HBB.out⟩
 · have hv1:(sw n (2*n+1) h F).1=(r:Int):=by rw [hv]
   rw [hv1]
   have HW:=hJ hv1
   clear HV hv hv1
   go_wp2
   go_ret2
   exact ⟨by rw [HW.out];unfold vicV;simp,HBB.out⟩
end
set_option maxRecDepth 100000
set_option maxHeartbeats 4000000
open Go.RowKit
abbrev Rdr:=Int×Int→Option Bytes
def SubR (a b:Rdr):Prop:=∀r L,a r=some L→b r=some L
theorem SubR.refl (a:Rdr):SubR a a:=fun _ _ h=>h
theorem SubR.trans {a b c:Rdr} (h:SubR a b) (k:SubR b c):SubR a c:=fun r L e=>k r L (h r L e)
structure PSnk {σ:Type} (K:SnkF σ) where
 In:σ→Prop
 rd:σ→Rdr
 cnt:σ→Nat
 room:σ→Int
 ez:Int
 ez0:ez≠0
 get:∀s a b,In s→rd s a=some b→(K.get s a).2=(b,0)∧In (K.get s a).1∧rd (K.get s a).1=rd s∧cnt (K.get s a).1=cnt s∧room (K.get s a).1=room s
 put:∀s b,In s→K.Rdy s 1→b.length≤5000→room s≠0→(K.put s b).2.2=0∧In (K.put s b).1∧rd (K.put s b).1 (K.put s b).2.1=some b∧(K.put s b).2.1≠(0,0)∧SubR (rd s) (rd (K.put s b).1)∧cnt (K.put s b).1=cnt s+1∧room (K.put s b).1=if 0<room s then room s-1 else room s
 full:∀s b,In s→room s=0→(K.put s b).2.2=ez∧(K.put s b).1=s
def shRd (L:List Bytes):Rdr:=fun a=>if a.1<1∨(L.length:Int)<a.1 then none else if a.2≠13+((L.getD (a.1-1).toNat []).length:Int) then none else some (L.getD (a.1-1).toNat [])
theorem shRd_sub (L:List Bytes) (b:Bytes):SubR (shRd L) (shRd (L ++ [b])):=fun a x h=>by
 unfold shRd at *
 split at h
 · cases h
 · rename_i h1
   split at h
   · cases h
   · rename_i h2
     have e:(L ++ [b]).getD (a.1-1).toNat []=L.getD (a.1-1).toNat []:=by
      rw [List.getD_eq_getElem?_getD,List.getD_eq_getElem?_getD,List.getElem?_append_left (by omega)]
     rw [if_neg (by simp;omega),e,if_neg h2]
     exact h
def shP : PSnk shK where
 In s:=s.bad<0
 rd s:=shRd s.L
 cnt s:=s.L.length
 room s:=s.full
 ez:=7
 ez0:=by decide
 get s a b hs h:=by
  unfold shRd at h
  split at h
  · cases h
  · rename_i h1
    split at h
    · cases h
    · rename_i h2
      have e:shK.get s a=({s with gets:=inc64 s.gets},b,0):=by
       simp only [shK]
       rw [if_neg h1,if_neg h2,if_neg (by have:s.bad<0:=hs;omega)]
       rw [Option.some.inj h]
      rw [e]
      exact ⟨rfl,hs,rfl,rfl,rfl⟩
 put s b hs hr hb h0:=by
  have e:shK.put s b=({s with L:=s.L ++ [b],full:=if 0<s.full then s.full-1 else s.full},((s.L.length:Int)+1,13+(b.length:Int)),0):=by
   simp only [shK]
   rw [if_neg h0]
  rw [e]
  refine ⟨rfl,hs,?_,?_,shRd_sub s.L b,by simp,rfl⟩
  · unfold shRd
    have e2:(s.L ++ [b]).getD ((s.L.length:Int)+1-1).toNat []=b:=by
     rw [show ((s.L.length:Int)+1-1).toNat=s.L.length by omega,List.getD_eq_getElem?_getD,List.getElem?_append_right jN]
     simp
    simp only [e2]
    rw [if_neg (by simp;omega),if_neg (by simp)]
  · intro h
    have:=congrArg Prod.fst h
    simp at this
    omega
 full s b hs h0:=by
  have e:shK.put s b=(s,(0,0),7):=by simp only [shK];rw [if_pos h0]
  rw [e]
  exact ⟨rfl,rfl⟩
def zeros (n:Nat):Bytes:=List.replicate n 0
theorem run_make_bytes (n:Nat) (hn:n≤2 ^ 24) (w:World):
 (Instr.makeSlice 24 (.int .i64 (n:Int)) (.int .i64 (n:Int))).run Tryz.prog w=.ok (.slice (some ⟨w.heap.size,0,none⟩) n n) (w.alloc (.cells (madeCells #[.int .u8 0] n) 5)):=by
 obtain ⟨i0,hi,hz0,hz1,hz2⟩:=info_parts byte_info
 have h:=run_make (P:=Tryz.prog) w 24 5 i0 _ Tryz.underlying24 hi hz0 .i64 .i64 n n (by omega) (by omega) (by rw [hz2];omega) (by omega)
 rw [h]
 simp [hz1,Value.cells]
theorem zeros_length (n:Nat):(zeros n).length=n:=by simp [zeros]
theorem FrB.zmade (w:World) (n:Nat) (hn:n≤2 ^ 24):FrB w (w.alloc (.cells (madeCells #[.int .u8 0] n) 5)) (.slice (some ⟨w.heap.size,0,none⟩) n n) (zeros n):=by
 refine ⟨?_,jB.alloc jN _⟩
 have h:=World.ownsRow_lit (base:=w.heap.size) (e:=5) (size:=1) w (madeCells #[.int .u8 0] n) n jN (by unfold maxLen;omega) (by rw [size_madeCells];omega)
 unfold OwB
 rw [zeros_length]
 have e:(madeCells #[.int .u8 0] n).toList=(zeros n).map bv:=by
  apply List.ext_getElem?
  intro i
  by_cases hi:i<n
  · rw [Array.getElem?_toList,made_at _ _ _ hi]
    simp [zeros,hi,Nat.mod_one,bv]
  · rw [Array.getElem?_toList,Array.getElem?_eq_none (by rw [size_madeCells];omega),List.getElem?_eq_none (by rw [List.length_map,zeros_length];omega)]
 rw [←e]
 exact h
structure PSnk.Miss {σ:Type} {K:SnkF σ} (P:PSnk K):Prop where
 no:∀s a,P.In s→P.rd s a=none→(K.get s a).2.2=20∧P.In (K.get s a).1∧P.rd (K.get s a).1=P.rd s∧P.cnt (K.get s a).1=P.cnt s∧P.room (K.get s a).1=P.room s
theorem shP_miss:PSnk.Miss shP:=⟨fun s a hs h=>by
 have h2:(shRd s.L a)=none:=h
 unfold shRd at h2
 simp only [shP,shK]
 split at h2
 · rename_i h1
   rw [if_pos h1]
   exact ⟨rfl,hs,rfl,rfl,rfl⟩
 · rename_i h1
   split at h2
   · rename_i h3
     rw [if_neg h1,if_pos h3]
     exact ⟨rfl,hs,rfl,rfl,rfl⟩
   · cases h2⟩
end Go.Proofs.YtlhfjaagkgengaaGreat
