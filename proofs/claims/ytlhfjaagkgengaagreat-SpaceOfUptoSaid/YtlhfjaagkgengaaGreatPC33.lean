/- almanacref15: Map, Unmap, Protect are the program's. The document's machine in memory: processes, machines. -/
import Derived.Test.YtlhfjaagkgengaaGreatPC32
import Derived.Test.YtlhfjaagkgengaaGreatPC30
namespace Go.Proofs.YtlhfjaagkgengaaGreat
set_option maxRecDepth 100000
set_option maxHeartbeats 4000000
open Go.RowKit Go.Maps
set_option linter.unusedVariables false
set_option linter.unusedSimpArgs false
section
variable {w:World} {A:Option Addr} {L:List Rg}
theorem rightB_no {lo hi p:Int} (h:¬((0≤lo∧lo<hi)∧0≤p∧p≤3)):rightB lo hi p=false:=by
 unfold rightB protB
 by_cases h1:0≤lo∧lo<hi
 · rw [decide_eq_true h1,decide_eq_false (fun e=>h ⟨h1,e⟩)];rfl
 · rw [decide_eq_false h1];rfl
theorem rightB_yes {lo hi p:Int} (h1:0≤lo∧lo<hi) (h2:0≤p∧p≤3):rightB lo hi p=true:=by
 unfold rightB protB
 rw [decide_eq_true h1,decide_eq_true h2];rfl
theorem rMap_any (w:World) (c:Nat) (hL:RgAt w A L) (hn:L.length≤5000) (hc:CanR 0 none L) (hp:∀r∈L,r.pr≠ -1) (lo hi p:Int):
 Calls Tryz.prog 152 #[.slice A L.length c,.int .i64 lo,.int .i64 hi,.int .i64 p] w (RgPost w (mapF L lo hi p)):=by
 have hno:∀{e:Int},mapF L lo hi p=([],e)→RgPost w (mapF L lo hi p) (.returned (.tuple #[.slice none 0 0,.int .i64 e])) w:=fun {e} h=>by
  rw [h];exact ⟨none,0,rfl,OwG.nil _ _,Below.refl _ _⟩
 by_cases hr:(0≤lo∧lo<hi)∧0≤p∧p≤3
 · obtain ⟨⟨g1,g2⟩,g3,g4⟩:=hr
   have hrb:=rightB_yes ⟨g1,g2⟩ ⟨g3,g4⟩
   have hpn:=pieces_nil (L:=L) (lo:=lo) (hi:=hi) (fun r hr=>(hc.srt.mem hr).2) g2
   have HNO:Hid (∀(i:Nat) (s:Rg),L[i]? =some s→s.lo<hi→lo<s.hi→RgPost w (mapF L lo hi p) (.returned (.tuple #[.slice none 0 0,.int .i64 3])) w):=hJ fun i s hs h1 h2=>hno (by
    unfold mapF
    rw [if_neg (by rw [hrb];simp),if_pos]
    intro e
    have:=hpn.1 e s (jG hs)
    omega)
   have HYES:Hid ((∀(i:Nat) (s:Rg),i<L.length→L[i]? =some s→s.lo<hi→s.hi≤lo)→mapF L lo hi p=(withF L lo hi p,0)):=hJ fun h=>by
    have hd:∀r∈L,r.hi≤lo∨hi≤r.lo:=fun r hr=>by
     obtain ⟨i,hi2⟩:=List.mem_iff_getElem?.1 hr
     have:=h i r (jS.1 hi2).1 hi2
     omega
    unfold mapF
    rw [if_neg (by rw [hrb];simp),if_neg (by rw [hpn.2 hd];simp),map_same hc hp g1 g2 (by omega) hd]
   have HW:=hJ (rwith_any w c lo hi p hL hn)
   obtain ⟨R,hR⟩:∃R,mapF L lo hi p=R:=⟨_,rfl⟩
   rw [hR] at HNO HYES ⊢
   have HL:=hJ hL
   clear hL hrb hpn hno hR hc hp
   go_enter Tryz.func152,Tryz.ntmps152
   go_wp2
   go_loop [10] (fun i=>∃j:Nat,j≤L.length∧i=.int .i64 (j:Nat)∧Hid (∀(i:Nat) (s:Rg),i<j→L[i]? =some s→s.lo<hi→s.hi≤lo)) (fun i=>L.length-(intOf i).toNat)
   case atStart=>exact ⟨0,Nat.zero_le _,rfl,hJ fun i s hi=>by omega⟩
   case round=>
    obtain ⟨j,hj,rfl,HN⟩:=hrel
    by_cases hlt:j<L.length
    · obtain ⟨r,hr⟩:∃r,L[j]? =some r:=⟨_,jE hlt⟩
      obtain ⟨g,o,rfl,hg,hcl⟩:=HL.out.at_ (by omega)
      obtain ⟨c0,c1,_⟩:=hcl j r hr
      have hjI:(j:Int)<(L.length:Int):=by omega
      have HRR:=hJ hr
      have HN2:Hid ((r.lo<hi→r.hi≤lo)→∀(i:Nat) (s:Rg),i<j+1→L[i]? =some s→s.lo<hi→s.hi≤lo):=hJ fun h i s hi hs=>by
       rcases Nat.lt_or_ge i j with h2|h2
       · exact HN.out i s h2 hs
       · obtain rfl:i=j:=by omega
         rw [HRR.out] at hs
         cases hs
         exact h
      obtain ⟨ra,rb,rp⟩:=r
      simp only at c0 c1
      clear hr hcl
      by_cases h1:ra<hi
      · by_cases h2:lo<rb
        · have HF:=hJ (HNO.out j _ HRR.out h1 h2)
          go_wp2
          go_ret2
          exact HF.out
        · have hN3:=hJ (HN2.out (fun _=>Int.not_lt.1 h2))
          clear HN2
          go_wp2
          go_round
          case rel=>exact ⟨j+1,hlt,by go_num,hN3⟩
          case measure=>simp [intOf];omega
      · have hN3:=hJ (HN2.out (fun e=>absurd e h1))
        clear HN2
        go_wp2
        go_round
        case rel=>exact ⟨j+1,hlt,by go_num,hN3⟩
        case measure=>simp [intOf];omega
    · obtain rfl:j=L.length:=by omega
      have hjI:¬(L.length:Int)<(L.length:Int):=by omega
      have HF:=hJ (HYES.out HN.out)
      go_wp2_with (go_at_call 182;refine HW.out.mono ?_;rintro e w1 ⟨A1,c1,rfl,hf1⟩;have HF1:=hJ hf1;clear hf1)
      go_ret2
      rw [HF.out]
      exact ⟨A1,c1,rfl,HF1.out⟩
 · have HG:=hJ (hno (e:=1) (by unfold mapF;rw [if_pos (rightB_no hr)]))
   clear hL hc hp hno
   by_cases h1:lo<0
   · clear hr
     go_enter Tryz.func152,Tryz.ntmps152
     go_wp2
     go_ret2
     exact HG.out
   · by_cases h2:hi≤lo
     · clear hr
       go_enter Tryz.func152,Tryz.ntmps152
       go_wp2
       go_ret2
       exact HG.out
     · by_cases h3:p<0
       · clear hr
         go_enter Tryz.func152,Tryz.ntmps152
         go_wp2
         go_ret2
         exact HG.out
       · have h4:3<p:=by omega
         clear hr
         go_enter Tryz.func152,Tryz.ntmps152
         go_wp2
         go_ret2
         exact HG.out
theorem rUnmap_any (w:World) (c:Nat) (hL:RgAt w A L) (hn:L.length≤5000) (hc:CanR 0 none L) (hp:∀r∈L,r.pr≠ -1) {lo hi:Int} (h0:0≤lo) (hlt:lo<hi):
 Calls Tryz.prog 153 #[.slice A L.length c,.int .i64 lo,.int .i64 hi] w fun e w'=>∃A' c',e=.returned (.slice A' (cutR L lo hi).length c')∧FrG w w' (.slice A' (cutR L lo hi).length c') (cutR L lo hi):=by
 have HW:=hJ (rwith_any w c lo hi (-1) hL hn)
 rw [unmap_same hc hp h0 hlt]
 obtain ⟨R,hR⟩:∃R,withF L lo hi (-1)=R:=⟨_,rfl⟩
 rw [hR] at HW ⊢
 clear hL hc hp hR
 go_enter Tryz.func153,Tryz.ntmps153
 go_wp2_with (go_at_call 182;refine HW.out.mono ?_;rintro e w1 ⟨A1,c1,rfl,hf1⟩;have HF1:=hJ hf1;clear hf1)
 go_ret
 exact ⟨A1,c1,rfl,HF1.out⟩
theorem rProt_any (w:World) (c:Nat) (hL:RgAt w A L) (hn:L.length≤5000) (hc:CanR 0 none L) (hp:∀r∈L,r.pr≠ -1) (lo hi p:Int):
 Calls Tryz.prog 154 #[.slice A L.length c,.int .i64 lo,.int .i64 hi,.int .i64 p] w (RgPost w (protF L lo hi p)):=by
 by_cases hr:(0≤lo∧lo<hi)∧0≤p∧p≤3
 · obtain ⟨⟨g1,g2⟩,g3,g4⟩:=hr
   have hrb:=rightB_yes ⟨g1,g2⟩ ⟨g3,g4⟩
   have HA:=hJ (rAll_any w c lo hi 0 hL hn hc.srt hp g2)
   have HW:Hid (∀V,Below w.heap.size w V→_):=hJ fun V hV=>rwith_any V c lo hi p (hL.up hV) hn
   have hF:protF L lo hi p=if allF L lo hi 0=false then ([],2) else (withF L lo hi p,0):=by
    unfold protF
    rw [if_neg (by rw [hrb];simp),prot_same hc hp g1 g2 (by omega)]
   obtain ⟨z,hz⟩:∃z,allF L lo hi 0=z:=⟨_,rfl⟩
   rw [hz] at HA hF
   rw [hF]
   clear hL hrb hF hc hp hz
   cases z with
   | false=>
     go_enter Tryz.func154,Tryz.ntmps154
     go_wp2_with (go_at_call 167;refine HA.out.mono ?_;rintro e w1 ⟨rfl,hb1⟩;have HB1:=hJ hb1;clear hb1)
     go_ret2
     exact ⟨none,0,rfl,OwG.nil _ _,HB1.out⟩
   | true=>
     go_enter Tryz.func154,Tryz.ntmps154
     go_wp2_with (first|(go_at_call 167;refine HA.out.mono ?_;rintro e w1 ⟨rfl,hb1⟩;have HB1:=hJ hb1;clear hb1)|(go_at_call 182;refine (HW.out _ HB1.out).mono ?_;rintro e w2 ⟨A1,c1,rfl,hf1⟩;have HF1:=hJ hf1;clear hf1))
     go_ret2
     exact ⟨A1,c1,rfl,OwG.low HF1.out.1 HB1.out.size,HB1.out.trans (HF1.out.2.mono HB1.out.size)⟩
 · have HG:Hid (RgPost w (protF L lo hi p) (.returned (.tuple #[.slice none 0 0,.int .i64 1])) w):=hJ (by
    unfold protF;rw [if_pos (rightB_no hr)];exact ⟨none,0,rfl,OwG.nil _ _,Below.refl _ _⟩)
   clear hL hc hp
   by_cases h1:lo<0
   · clear hr
     go_enter Tryz.func154,Tryz.ntmps154
     go_wp2
     go_ret2
     exact HG.out
   · by_cases h2:hi≤lo
     · clear hr
       go_enter Tryz.func154,Tryz.ntmps154
       go_wp2
       go_ret2
       exact HG.out
     · by_cases h3:p<0
       · clear hr
         go_enter Tryz.func154,Tryz.ntmps154
         go_wp2
         go_ret2
         exact HG.out
       · have h4:3<p:=by omega
         clear hr
         go_enter Tryz.func154,Tryz.ntmps154
         go_wp2
         go_ret2
         exact HG.out
end
set_option maxRecDepth 100000
set_option maxHeartbeats 4000000
structure MPr where
 X:Nat
 RA:Option Addr
 Rc:Nat
 R:List Rg
 LA:Option Addr
 Lc:Nat
 L:List MPg
def MPr.rv (p:MPr):Value:=.slice p.RA p.R.length p.Rc
def MPr.lv (p:MPr):Value:=.slice p.LA p.L.length p.Lc
def MPr.pl (p:MPr):PrP:=⟨p.R,p.L.map fun x=>(x.n,x.b)⟩
def MPr.own (p:MPr) (q:Nat):Prop:=q=p.X∨p.rv.ownBlock=some q∨p.lv.ownBlock=some q∨∃x∈p.L,x.g=q
structure PrAt (w:World) (z:Nat) (p:MPr):Prop where
 x0:w.heap[p.X]? =some (.cells #[p.rv,p.lv] 157 (0,0))
 rr:OwE rgE 0 w p.rv p.R
 lr:OwE pgE 0 w p.lv p.L
 bys:∀x∈p.L,OwB 0 w (.slice (some ⟨x.g,0,none⟩) x.b.length x.c) x.b
 ok:PgOk z p.pl.L
 gs:p.L.Pairwise fun x y=>x.g≠y.g
theorem own_type {B B':Nat} {w:World} {e e':TypeId} {s s':Nat} {v v':Value} {n n':Nat} {xs xs':List Value} (h:w.ownsRow B e s v n xs) (h':w.ownsRow B' e' s' v' n' xs') (hne:e≠e') {q:Nat} (h1:v.ownBlock=some q):v'.ownBlock≠some q:=by
 intro h2
 rcases h.2 with ⟨rfl,_⟩|⟨g,cap,cur,rfl,_,hg,_⟩
 · cases h1
 · rcases h'.2 with ⟨rfl,_⟩|⟨g',cap',cur',rfl,_,hg',_⟩
   · cases h2
   · cases h1
     cases h2
     rw [hg] at hg'
     simp at hg'
     exact hne hg'.2
theorem own_block {B:Nat} {w:World} {e e':TypeId} {s:Nat} {v:Value} {n:Nat} {xs:List Value} {X:Nat} {cs:Array Value} {fr:Nat×Nat} (h:w.ownsRow B e s v n xs) (hx:w.heap[X]? =some (.cells cs e' fr)) (hne:e≠e') {q:Nat} (h1:v.ownBlock=some q):q≠X:=by
 intro h2
 rcases h.2 with ⟨rfl,_⟩|⟨g,cap,cur,rfl,_,hg,_⟩
 · cases h1
 · cases h1
   change g=X at h2
   rw [h2,hx] at hg
   simp at hg
   exact hne hg.2.1.symm
section
variable {w w' w1:World} {z:Nat} {p p':MPr} {S:Nat→Prop} {q:Nat}
theorem PrAt.c0 (h:PrAt w z p):w.cell? ⟨p.X,0,none⟩=some p.rv:=by rw [cell_of_row _ _ _ _ _ _ h.x0];rfl
theorem PrAt.c1 (h:PrAt w z p):w.cell? ⟨p.X,1,none⟩=some p.lv:=by rw [cell_of_row _ _ _ _ _ _ h.x0];rfl
theorem PrAt.fz (h:PrAt w z p) (k:Nat):w.frozen? ⟨p.X,k,none⟩=false:=frozen_of_row w p.X k _ _ h.x0
theorem PrAt.ltX (h:PrAt w z p):p.X<w.heap.size:=(Array.getElem?_eq_some_iff.1 h.x0).1
theorem PrAt.lt (h:PrAt w z p) (hq:p.own q):q<w.heap.size:=by
 rcases hq with rfl|e|e|⟨x,hx,rfl⟩
 · exact h.ltX
 · exact (h.rr.lt e).2
 · exact (h.lr.lt e).2
 · exact ((h.bys x hx).lt _ rfl).2
theorem PrAt.off (h:PrAt w z p) (ho:Off S w w') (hs:∀q,p.own q→¬S q):PrAt w' z p:=
 ⟨(ho.block p.X h.ltX (hs _ (.inl rfl))).trans h.x0,h.rr.off ho fun k e=>hs k (.inr (.inl e)),h.lr.off ho fun k e=>hs k (.inr (.inr (.inl e))),fun x hx=>(h.bys x hx).off ho fun k e=>by
  cases e
  exact hs _ (.inr (.inr (.inr ⟨x,hx,rfl⟩))),h.ok,h.gs⟩
theorem PrAt.up (h:PrAt w z p) (hb:Below w.heap.size w w'):PrAt w' z p:=h.off (S:=fun _=>False) (Off.of_below hb) (fun _ _=>id)
theorem PrAt.len (h:PrAt w z p) {x:MPg} (hx:x∈p.L):x.b.length=z:=h.ok.2 (x.n,x.b) (List.mem_map.2 ⟨x,hx,rfl⟩)
theorem PrAt.ne_rX (h:PrAt w z p) (e:p.rv.ownBlock=some q):q≠p.X:=own_block h.rr h.x0 (by decide) e
theorem PrAt.ne_lX (h:PrAt w z p) (e:p.lv.ownBlock=some q):q≠p.X:=own_block h.lr h.x0 (by decide) e
theorem PrAt.ne_gX (h:PrAt w z p) {x:MPg} (hx:x∈p.L):x.g≠p.X:=own_block (h.bys x hx) h.x0 (by decide) rfl
theorem PrAt.ne_gr (h:PrAt w z p) {x:MPg} (hx:x∈p.L):p.rv.ownBlock≠some x.g:=own_type (h.bys x hx) h.rr (by decide) rfl
theorem PrAt.ne_gl (h:PrAt w z p) {x:MPg} (hx:x∈p.L):p.lv.ownBlock≠some x.g:=own_type (h.bys x hx) h.lr (by decide) rfl
theorem PrAt.ne_rl (h:PrAt w z p) (e:p.rv.ownBlock=some q):p.lv.ownBlock≠some q:=own_type h.rr h.lr (by decide) e
theorem PrAt.rg (h:PrAt w z p):RgAt w p.RA p.R:=eAt_rg h.rr.rg
theorem PrAt.pg (h:PrAt w z p):EAt pgE w p.LA p.L:=h.lr.rg
theorem OwB.cellB {B:Nat} {w:World} {g n c:Nat} {b:Bytes} (h:OwB B w (.slice (some ⟨g,0,none⟩) n c) b) {j:Nat} (hj:j<b.length):w.cell? ⟨g,j,none⟩=some (.int .u8 (at8 b j:Nat)):=by
 obtain ⟨h1,h2,h3⟩:=h.part
 obtain ⟨g',o',e,_,hc⟩:=h3.2 (by omega)
 cases e
 have:=hc j (by omega)
 rw [Nat.zero_add] at this
 exact this
theorem OwB.fzB {B:Nat} {w:World} {g n c:Nat} {b:Bytes} (h:OwB B w (.slice (some ⟨g,0,none⟩) n c) b) (j:Nat):w.frozen? ⟨g,j,none⟩=false:=by
 have hn:n=b.length:=(h.part).1.symm
 subst hn
 exact World.ownsRow.frozenAt h j
theorem OwB.setB {B:Nat} {w:World} {g n c:Nat} {b:Bytes} (h:OwB B w (.slice (some ⟨g,0,none⟩) n c) b) (j:Nat) (x:UInt8):
 OwB B (w.setCell ⟨g,j,none⟩ (bv x)) (.slice (some ⟨g,0,none⟩) n c) (b.set j x)∧Off (· =g) w (w.setCell ⟨g,j,none⟩ (bv x)):=by
 have hn:n=b.length:=(h.part).1.symm
 subst hn
 obtain ⟨h1,h2⟩:=World.ownsRow.stored h j (bv x)
 refine ⟨?_,(grown_off h2).mono fun k e=>by cases e;rfl⟩
 unfold OwB
 rw [List.length_set,List.map_set]
 exact h1
end
structure MaD where
 X:Nat
 S:Nat
 BA:Option Addr
 Bc:Nat
 QA:Option Addr
 Qc:Nat
 cf:Nat→Int
 z:Nat
 n:Nat
 rg:Nat
 ps:Nat
def MaD.sd (D:MaD):SpD:=⟨0,0,0,D.cf,D.z,D.rg,D.ps⟩
def MaD.bv (D:MaD):Value:=.slice D.BA D.n D.Bc
def MaD.qv (D:MaD):Value:=.slice D.QA D.n D.Qc
def MaD.fx (D:MaD) (q:Nat):Prop:=q=D.X∨q=D.S∨D.bv.ownBlock=some q∨D.qv.ownBlock=some q
structure MaF (w:World) (D:MaD) (B:List Bool) (Q:List (Option Nat)):Prop where
 cc:∀i,i<9→w.cell? ⟨D.X,i,none⟩=some (.int .i64 (D.cf i))
 c9:w.cell? ⟨D.X,9,none⟩=some (.pointer (some ⟨D.S,0,none⟩))
 c10:w.cell? ⟨D.X,10,none⟩=some D.qv
 s0:w.cell? ⟨D.S,0,none⟩=some D.bv
 bo:OwE boE 0 w D.bv B
 pr:OwE prE 0 w D.qv Q
 lB:B.length=D.n
 lQ:Q.length=D.n
 good:GoodC D.cf
 ez:D.cf 4=(D.z:Nat)
 en:D.cf 6=(D.n:Nat)
 er:D.cf 7=(D.rg:Nat)
 ep:D.cf 8=(D.ps:Nat)
 neB:∀q,D.bv.ownBlock=some q→q≠D.X∧q≠D.S
 neQ:∀q,D.qv.ownBlock=some q→q≠D.X∧q≠D.S
section
variable {w w' w1:World} {D:MaD} {B:List Bool} {Q:List (Option Nat)} {S:Nat→Prop} {q:Nat}
theorem MaF.sok (h:MaF w D B Q):D.sd.Ok:=by
 obtain ⟨h1,h2,h3,h4⟩:=h.good
 have:=h.ez
 have:=h.er
 have:=h.ep
 exact ⟨h.ez,h.er,h.ep,by show 16≤D.z∧D.z≤4096;omega,by show 1≤D.rg∧D.rg≤32;omega,by show 1≤D.ps∧D.ps≤65536;omega⟩
theorem MaF.ltX (h:MaF w D B Q):D.X<w.heap.size:=lt_of_cell h.c9
theorem MaF.ltS (h:MaF w D B Q):D.S<w.heap.size:=lt_of_cell h.s0
theorem MaF.lt (h:MaF w D B Q) (hq:D.fx q):q<w.heap.size:=by
 rcases hq with rfl|rfl|e|e
 · exact h.ltX
 · exact h.ltS
 · exact (h.bo.lt e).2
 · exact (h.pr.lt e).2
theorem MaF.off (h:MaF w D B Q) (ho:Off S w w') (hs:∀q,D.fx q→¬S q):MaF w' D B Q:=
 ⟨fun i hi=>(ho.cell (p:=⟨D.X,i,none⟩) h.ltX (hs _ (.inl rfl))).trans (h.cc i hi),(ho.cell (p:=⟨D.X,9,none⟩) h.ltX (hs _ (.inl rfl))).trans h.c9,(ho.cell (p:=⟨D.X,10,none⟩) h.ltX (hs _ (.inl rfl))).trans h.c10,(ho.cell (p:=⟨D.S,0,none⟩) h.ltS (hs _ (.inr (.inl rfl)))).trans h.s0,
  h.bo.off ho fun k e=>hs k (.inr (.inr (.inl e))),h.pr.off ho fun k e=>hs k (.inr (.inr (.inr e))),h.lB,h.lQ,h.good,h.ez,h.en,h.er,h.ep,h.neB,h.neQ⟩
theorem MaF.up (h:MaF w D B Q) (hb:Below w.heap.size w w'):MaF w' D B Q:=h.off (S:=fun _=>False) (Off.of_below hb) (fun _ _=>id)
theorem MaF.neBQ (h:MaF w D B Q) (e:D.bv.ownBlock=some q):D.qv.ownBlock≠some q:=own_type h.bo h.pr (by decide) e
theorem MaF.setB (h:MaF w D B Q) {g:Nat} (hg:D.BA=some ⟨g,0,none⟩) (k:Nat) (x:Bool):MaF (w.setCell ⟨g,k,none⟩ (.bool x)) D (B.set k x) Q∧Off (· =g) w (w.setCell ⟨g,k,none⟩ (.bool x)):=by
 have hown:D.bv.ownBlock=some g:=by unfold MaD.bv;rw [hg];rfl
 have hbo:=h.bo
 unfold MaD.bv at hbo
 rw [hg] at hbo
 obtain ⟨h1,h2⟩:=OwE.set1 hbo rfl k x (u:=.bool x) rfl
 have ho:∀q,D.fx q→q≠g→¬(q=g):=fun q _ e=>e
 have nX:=(h.neB g hown).1
 have nS:=(h.neB g hown).2
 refine ⟨⟨fun i hi=>(h2.cell (p:=⟨D.X,i,none⟩) h.ltX nX.symm).trans (h.cc i hi),(h2.cell (p:=⟨D.X,9,none⟩) h.ltX nX.symm).trans h.c9,(h2.cell (p:=⟨D.X,10,none⟩) h.ltX nX.symm).trans h.c10,(h2.cell (p:=⟨D.S,0,none⟩) h.ltS nS.symm).trans h.s0,?_,h.pr.off h2 fun k e e2=>?_,by rw [List.length_set];exact h.lB,h.lQ,h.good,h.ez,h.en,h.er,h.ep,h.neB,h.neQ⟩,h2⟩
 · unfold MaD.bv
   rw [hg]
   exact h1
 · rw [e2] at e
   exact h.neBQ hown e
theorem MaF.setQ (h:MaF w D B Q) {g:Nat} (hg:D.QA=some ⟨g,0,none⟩) (k:Nat) (x:Option Nat):MaF (w.setCell ⟨g,k,none⟩ (.pointer (x.map fun g=>⟨g,0,none⟩))) D B (Q.set k x)∧Off (· =g) w (w.setCell ⟨g,k,none⟩ (.pointer (x.map fun g=>⟨g,0,none⟩))):=by
 have hown:D.qv.ownBlock=some g:=by unfold MaD.qv;rw [hg];rfl
 have hbo:=h.pr
 unfold MaD.qv at hbo
 rw [hg] at hbo
 obtain ⟨h1,h2⟩:=OwE.set1 hbo rfl k x (u:=.pointer (x.map fun g=>⟨g,0,none⟩)) rfl
 have nX:=(h.neQ g hown).1
 have nS:=(h.neQ g hown).2
 refine ⟨⟨fun i hi=>(h2.cell (p:=⟨D.X,i,none⟩) h.ltX nX.symm).trans (h.cc i hi),(h2.cell (p:=⟨D.X,9,none⟩) h.ltX nX.symm).trans h.c9,(h2.cell (p:=⟨D.X,10,none⟩) h.ltX nX.symm).trans h.c10,(h2.cell (p:=⟨D.S,0,none⟩) h.ltS nS.symm).trans h.s0,h.bo.off h2 fun k e e2=>?_,?_,h.lB,by rw [List.length_set];exact h.lQ,h.good,h.ez,h.en,h.er,h.ep,h.neB,h.neQ⟩,h2⟩
 · rw [e2] at e
   exact h.neBQ e hown
 · unfold MaD.qv
   rw [hg]
   exact h1
end
structure MaAt (w:World) (D:MaD) (P:List (Option MPr)):Prop where
 f:MaF w D (P.map Option.isSome) (P.map (Option.map MPr.X))
 ps:∀p,some p∈P→PrAt w D.z p
 dj:∀(i j:Nat) (p q:MPr),P[i]? =some (some p)→P[j]? =some (some q)→i≠j→∀k,p.own k→¬q.own k
 sep:∀p,some p∈P→∀q,p.own q→¬D.fx q
def maO (D:MaD) (P:List (Option MPr)) (q:Nat):Prop:=D.fx q∨∃p,some p∈P∧p.own q
structure MaN (w w':World) (D:MaD) (P P':List (Option MPr)):Prop where
 off:Off (maO D P) w w'
 own:∀q,maO D P' q→maO D P q∨w.heap.size≤q
section
variable {w w' w1 w2:World} {D:MaD} {P P' P1 P2:List (Option MPr)} {S:Nat→Prop} {q k:Nat} {p p':MPr}
theorem MaAt.len (h:MaAt w D P):P.length=D.n:=by have:=h.f.lB;simpa using this
theorem MaAt.lt (h:MaAt w D P) (hq:maO D P q):q<w.heap.size:=by
 rcases hq with e|⟨p,hp,e⟩
 · exact h.f.lt e
 · exact (h.ps p hp).lt e
theorem MaAt.off (h:MaAt w D P) (ho:Off S w w') (hs:∀q,maO D P q→¬S q):MaAt w' D P:=
 ⟨h.f.off ho fun q e=>hs q (.inl e),fun p hp=>(h.ps p hp).off ho fun q e=>hs q (.inr ⟨p,hp,e⟩),h.dj,h.sep⟩
theorem MaAt.up (h:MaAt w D P) (hb:Below w.heap.size w w'):MaAt w' D P:=h.off (S:=fun _=>False) (Off.of_below hb) (fun _ _=>id)
theorem MaN.refl:MaN w w D P P:=⟨Off.refl _ _,fun _=>.inl⟩
theorem MaN.up (h:MaN w w1 D P P') (hb:Below w1.heap.size w1 w2):MaN w w2 D P P':=⟨h.off.step hb,h.own⟩
theorem MaN.trans (h:MaN w w1 D P P1) (g:MaN w1 w2 D P1 P2):MaN w w2 D P P2:=by
 refine ⟨h.off.late g.off (fun i hi ho=>?_),fun i ho=>?_⟩
 · rcases h.own i ho with e|e
   · exact e
   · omega
 · rcases g.own i ho with e|e
   · exact h.own i e
   · have:=h.off.size;exact .inr (by omega)
theorem MaAt.get (h:MaAt w D P) (hk:P[k]? =some (some p)):PrAt w D.z p:=h.ps p (jG hk)
theorem set_mem {E:Type} {l:List E} {k:Nat} {x y:E} (h:y∈l.set k x):y=x∨∃i,i≠k∧l[i]? =some y:=by
 obtain ⟨i,hi⟩:=List.mem_iff_getElem?.1 h
 rw [List.getElem?_set] at hi
 split at hi
 · split at hi
   · exact .inl (Option.some.inj hi).symm
   · cases hi
 · rename_i hne
   exact .inr ⟨i,fun e=>hne e.symm,hi⟩
theorem MaAt.setPr (h:MaAt w D P) (hk:P[k]? =some (some p)) (hX:p'.X=p.X) (ho:Off p.own w w') (hp:PrAt w' D.z p') (hw:∀q,p'.own q→p.own q∨w.heap.size≤q):MaAt w' D (P.set k (some p'))∧MaN w w' D P (P.set k (some p')):=by
 have hm:=jG hk
 have hkl:=(jS.1 hk).1
 have e1:(P.set k (some p')).map Option.isSome=P.map Option.isSome:=by
  rw [List.map_set]
  apply List.ext_getElem?
  intro i
  rw [List.getElem?_set,List.getElem?_map]
  by_cases c:k=i
  · subst c;rw [if_pos rfl,hk,if_pos (by simpa using hkl)];rfl
  · rw [if_neg c]
 have e2:(P.set k (some p')).map (Option.map MPr.X)=P.map (Option.map MPr.X):=by
  rw [List.map_set]
  apply List.ext_getElem?
  intro i
  rw [List.getElem?_set,List.getElem?_map]
  by_cases c:k=i
  · subst c;rw [if_pos rfl,hk,if_pos (by simpa using hkl)];simp [hX]
  · rw [if_neg c]
 have hat:∀(i:Nat) (x:MPr),(P.set k (some p'))[i]? =some (some x)→(i=k∧x=p')∨(i≠k∧P[i]? =some (some x)):=fun i x hx=>by
  rw [List.getElem?_set] at hx
  split at hx
  · rename_i e
    subst e
    cases hx;exact .inl ⟨rfl,rfl⟩
  · rename_i e;exact .inr ⟨fun e2=>e e2.symm,hx⟩
 refine ⟨⟨by rw [e1,e2];exact h.f.off ho fun q e e3=>h.sep p hm q e3 e,fun x hx=>?_,fun i j x y hx hy hij q hq hq2=>?_,fun x hx q hq hf=>?_⟩,⟨ho.mono fun q hq=>.inr ⟨p,hm,hq⟩,?_⟩⟩
 · rcases set_mem hx with e|⟨i,hi,hx⟩
   · cases e;exact hp
   · exact (h.get hx).off ho fun q hq e=>h.dj i k x p hx hk hi q hq e
 · rcases hat i x hx with ⟨rfl,rfl⟩|⟨hi,hx2⟩
   · rcases hat j y hy with ⟨rfl,rfl⟩|⟨hj,hy⟩
     · exact hij rfl
     · rcases hw q hq with e|e
       · exact h.dj i j p y hk hy hij q e hq2
       · have:=(h.get hy).lt hq2;omega
   · clear hx
     have hx:=hx2
     rcases hat j y hy with ⟨rfl,rfl⟩|⟨hj,hy⟩
     · rcases hw q hq2 with e|e
       · exact h.dj i j x p hx hk hi q hq e
       · have:=(h.get hx).lt hq;omega
     · exact h.dj i j x y hx hy hij q hq hq2
 · rcases set_mem hx with e|⟨i,hi,hx⟩
   · cases e
     rcases hw q hq with e|e
     · exact h.sep p hm q e hf
     · have:=h.f.lt hf;omega
   · exact h.sep x (jG hx) q hq hf
 · rintro q (e|⟨x,hx,hq⟩)
   · exact .inl (.inl e)
   · rcases set_mem hx with e|⟨i,hi,hx⟩
     · cases e
       exact (hw q hq).imp (fun e=>.inr ⟨p,hm,e⟩) id
     · exact .inl (.inr ⟨x,jG hx,hq⟩)
end
end Go.Proofs.YtlhfjaagkgengaaGreat
