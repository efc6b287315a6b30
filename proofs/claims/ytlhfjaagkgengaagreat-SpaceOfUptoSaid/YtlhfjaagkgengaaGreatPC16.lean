/- A space: what it is; New. A space: pages, fits, mapped, turn, Map. A space: turn, Map. A space: unmapped, protected, Protect, CheckBytes. A space: rows of parts. -/
import Derived.Test.YtlhfjaagkgengaaGreatPC12
import Derived.Test.YtlhfjaagkgengaaGreatPC15
namespace Go.Proofs.YtlhfjaagkgengaaGreat
set_option maxRecDepth 100000
set_option maxHeartbeats 4000000
open Go.RowKit Go.Maps
set_option linter.unusedVariables false
set_option linter.unusedSimpArgs false
def spF (m:Int→Option Int) (v:Value):Option Value:=(intOfV v).bind fun k=>(m k).map fun i=>.int .i64 i
def updM (m:Int→Option Int) (k:Int) (x:Option Int):Int→Option Int:=fun i=>if i=k then x else m i
theorem updM_same (m:Int→Option Int) (k:Int) (x:Option Int):updM m k x k=x:=by unfold updM;rw [if_pos rfl]
theorem updM_ne (m:Int→Option Int) (x:Option Int) {k i:Int} (h:i≠k):updM m k x i=m i:=by unfold updM;rw [if_neg h]
theorem spF_at (m:Int→Option Int) (k:Int):spF m (.int .i64 k)=(m k).map fun i=>.int .i64 i:=rfl
theorem spF_none:spF (fun _=>none)=fun _=>none:=by
 funext v
 unfold spF
 cases intOfV v<;>rfl
theorem spF_put (m:Int→Option Int) (k i:Int):putK (spF m) (.int .i64 k) (.int .i64 i)=spF (updM m k (some i)):=by
 funext v
 unfold putK
 by_cases h:v=.int .i64 k
 · rw [if_pos h,h,spF_at,updM_same];rfl
 · rw [if_neg h]
   unfold spF
   cases hv:intOfV v with
   |none=>rfl
   | some j=>
     have hj:j≠k:=fun e=>h (by rw [intOfV_inv hv,e])
     simp only [Option.bind_some]
     rw [updM_ne _ _ hj]
theorem spF_del (m:Int→Option Int) (k:Int):delK (spF m) (.int .i64 k)=spF (updM m k none):=by
 funext v
 unfold delK
 by_cases h:v=.int .i64 k
 · rw [if_pos h,h,spF_at,updM_same];rfl
 · rw [if_neg h]
   unfold spF
   cases hv:intOfV v with
   |none=>rfl
   | some j=>
     have hj:j≠k:=fun e=>h (by rw [intOfV_inv hv,e])
     simp only [Option.bind_some]
     rw [updM_ne _ _ hj]
structure SpD where
 X:Nat
 Mm:Nat
 Q:Nat
 cf:Nat→Int
 pg:Nat
 rg:Nat
 ps:Nat
structure SpD.Ok (D:SpD):Prop where
 e4:D.cf 4=(D.pg:Nat)
 e7:D.cf 7=(D.rg:Nat)
 e8:D.cf 8=(D.ps:Nat)
 b4:16≤D.pg∧D.pg≤4096
 b7:1≤D.rg∧D.rg≤32
 b8:1≤D.ps∧D.ps≤65536
structure SpAt (w:World) (D:SpD) (A:Option Addr) (cap:Nat) (L:List Rg) (m:Int→Option Int) (n:Nat):Prop where
 cc:∀i,i<9→w.cell? ⟨D.X,i,none⟩=some (.int .i64 (D.cf i))
 c9:w.cell? ⟨D.X,9,none⟩=some (.pointer (some ⟨D.Q,0,none⟩))
 c10:w.cell? ⟨D.X,10,none⟩=some (.slice A L.length cap)
 c11:w.cell? ⟨D.X,11,none⟩=some (.map (some D.Mm))
 fz:∀k,w.frozen? ⟨D.X,k,none⟩=false
 row:RgAt w A L
 mp:MapIs Tryz.prog 3 w D.Mm (spF m) n
 neM:D.X≠D.Mm
 neA:¬rgO A L.length D.X∧¬rgO A L.length D.Mm
def spO (D:SpD) (A:Option Addr) (n:Nat) (k:Nat):Prop:=k=D.X∨k=D.Mm∨rgO A n k
section
variable {w w':World} {D:SpD} {A:Option Addr} {cap n:Nat} {L:List Rg} {m:Int→Option Int} {S:Nat→Prop}
theorem SpAt.ltX (h:SpAt w D A cap L m n):D.X<w.heap.size:=lt_of_cell h.c9
theorem SpAt.lt (h:SpAt w D A cap L m n) {k:Nat} (hk:spO D A L.length k):k<w.heap.size:=by
 rcases hk with rfl|rfl|hk
 · exact h.ltX
 · exact h.mp.lt
 · exact h.row.lt hk
theorem SpAt.off (h:SpAt w D A cap L m n) (ho:Off S w w') (hs:∀k,S k→¬spO D A L.length k):SpAt w' D A cap L m n:=by
 have hX:¬S D.X:=fun e=>hs _ e (.inl rfl)
 have hl:=h.ltX
 exact ⟨fun i hi=>(ho.cell (p:=⟨D.X,i,none⟩) hl hX).trans (h.cc i hi),(ho.cell (p:=⟨D.X,9,none⟩) hl hX).trans h.c9,(ho.cell (p:=⟨D.X,10,none⟩) hl hX).trans h.c10,(ho.cell (p:=⟨D.X,11,none⟩) hl hX).trans h.c11,
  fun k=>(ho.frozen (p:=⟨D.X,k,none⟩) hl hX).trans (h.fz k),h.row.off ho (fun k e e2=>hs k e (.inr (.inr e2))),h.mp.off ho (fun e=>hs _ e (.inr (.inl rfl))),h.neM,h.neA⟩
theorem SpAt.up (h:SpAt w D A cap L m n) (hb:Below w.heap.size w w'):SpAt w' D A cap L m n:=h.off (S:=fun _=>False) (Off.of_below hb) (fun _=>False.elim)
theorem SpAt.page (h:SpAt w D A cap L m n) (hD:D.Ok):w.cell? ⟨D.X,4,none⟩=some (.int .i64 (D.pg:Nat)):=by rw [←hD.e4];exact h.cc 4 (by omega)
theorem SpAt.regs (h:SpAt w D A cap L m n) (hD:D.Ok):w.cell? ⟨D.X,7,none⟩=some (.int .i64 (D.rg:Nat)):=by rw [←hD.e7];exact h.cc 7 (by omega)
theorem SpAt.pages (h:SpAt w D A cap L m n) (hD:D.Ok):w.cell? ⟨D.X,8,none⟩=some (.int .i64 (D.ps:Nat)):=by rw [←hD.e8];exact h.cc 8 (by omega)
end
def cfgV (cf:Nat→Int):Value:=.agg #[.int .i64 (cf 0),.int .i64 (cf 1),.int .i64 (cf 2),.int .i64 (cf 3),.int .i64 (cf 4),.int .i64 (cf 5),.int .i64 (cf 6),.int .i64 (cf 7),.int .i64 (cf 8)]
def NewSp (w:World) (cf:Nat→Int) (Q pg rg ps:Nat) (e:Ending) (w':World):Prop:=
 ∃X Mm,e=.returned (.pointer (some ⟨X,0,none⟩))∧SpAt w' ⟨X,Mm,Q,cf,pg,rg,ps⟩ none 0 [] (fun _=>none) 0∧Below w.heap.size w w'∧w.heap.size≤X∧w.heap.size≤Mm
theorem newSp_mk (w:World) (cf:Nat→Int) (Q pg rg ps:Nat) (t1 t2:TypeId):
 NewSp w cf Q pg rg ps (.returned (.pointer (some ⟨w.heap.size+2,0,none⟩))) (((w.alloc (.cells #[.int .i64 (cf 0),.int .i64 (cf 1),.int .i64 (cf 2),.int .i64 (cf 3),.int .i64 (cf 4),.int .i64 (cf 5),.int .i64 (cf 6),.int .i64 (cf 7),.int .i64 (cf 8)] t1)).alloc (.map #[] 0)).alloc
  (.cells #[.int .i64 (cf 0),.int .i64 (cf 1),.int .i64 (cf 2),.int .i64 (cf 3),.int .i64 (cf 4),.int .i64 (cf 5),.int .i64 (cf 6),.int .i64 (cf 7),.int .i64 (cf 8),.pointer (some ⟨Q,0,none⟩),.slice none 0 0,.map (some (w.heap.size+1))] t2)):=by
 obtain ⟨w1,hw1⟩:∃w1,w1=w.alloc (.cells #[.int .i64 (cf 0),.int .i64 (cf 1),.int .i64 (cf 2),.int .i64 (cf 3),.int .i64 (cf 4),.int .i64 (cf 5),.int .i64 (cf 6),.int .i64 (cf 7),.int .i64 (cf 8)] t1):=⟨_,rfl⟩
 have s1:w1.heap.size=w.heap.size+1:=by rw [hw1];simp
 have b1:Below w.heap.size w w1:=by rw [hw1];exact jB.alloc jN _
 rw [←hw1]
 have hmp:=MapIs.made (P:=Tryz.prog) (k:=3) w1
 have b2:Below w1.heap.size w1 (w1.alloc (.map #[] 0)):=jB.alloc jN _
 have s2:(w1.alloc (.map #[] 0)).heap.size=w.heap.size+2:=by simp [s1]
 rw [s1] at hmp
 generalize w1.alloc (.map #[] 0)=w2 at *
 have hn:=heap_alloc_new w2 (.cells #[.int .i64 (cf 0),.int .i64 (cf 1),.int .i64 (cf 2),.int .i64 (cf 3),.int .i64 (cf 4),.int .i64 (cf 5),.int .i64 (cf 6),.int .i64 (cf 7),.int .i64 (cf 8),.pointer (some ⟨Q,0,none⟩),.slice none 0 0,.map (some (w.heap.size+1))] t2)
 have b3:Below w2.heap.size w2 (w2.alloc (.cells #[.int .i64 (cf 0),.int .i64 (cf 1),.int .i64 (cf 2),.int .i64 (cf 3),.int .i64 (cf 4),.int .i64 (cf 5),.int .i64 (cf 6),.int .i64 (cf 7),.int .i64 (cf 8),.pointer (some ⟨Q,0,none⟩),.slice none 0 0,.map (some (w.heap.size+1))] t2)):=jB.alloc jN _
 rw [s2] at hn
 generalize w2.alloc (.cells #[.int .i64 (cf 0),.int .i64 (cf 1),.int .i64 (cf 2),.int .i64 (cf 3),.int .i64 (cf 4),.int .i64 (cf 5),.int .i64 (cf 6),.int .i64 (cf 7),.int .i64 (cf 8),.pointer (some ⟨Q,0,none⟩),.slice none 0 0,.map (some (w.heap.size+1))] t2)=w3 at *
 have hc:∀k v,(#[.int .i64 (cf 0),.int .i64 (cf 1),.int .i64 (cf 2),.int .i64 (cf 3),.int .i64 (cf 4),.int .i64 (cf 5),.int .i64 (cf 6),.int .i64 (cf 7),.int .i64 (cf 8),.pointer (some ⟨Q,0,none⟩),.slice none 0 0,.map (some (w.heap.size+1))]:Array Value)[k]? =some v→w3.cell? ⟨w.heap.size+2,k,none⟩=some v:=fun k v hv=>by
  rw [cell_of_row _ _ _ _ _ _ hn];exact hv
 refine ⟨w.heap.size+2,w.heap.size+1,rfl,⟨fun i hi=>?_,hc 9 _ rfl,hc 10 _ rfl,hc 11 _ rfl,fun k=>?_,RgAt.nil _ _,?_,by show w.heap.size+2≠w.heap.size+1;omega,⟨fun e=>by have:=e.1;simp at this,fun e=>by have:=e.1;simp at this⟩⟩,b1.trans ((b2.mono (by omega)).trans (b3.mono (by omega))),by omega,by omega⟩
 · rcases (show i=0∨i=1∨i=2∨i=3∨i=4∨i=5∨i=6∨i=7∨i=8 by omega) with rfl|rfl|rfl|rfl|rfl|rfl|rfl|rfl|rfl<;>exact hc _ _ rfl
 · unfold World.frozen?
   simp only
   rw [hn]
   simp
 · rw [spF_none]
   exact hmp.off (S:=fun _=>False) (Off.of_below (b3.mono (by omega))) id
theorem spNew_any (w:World) (cf:Nat→Int) (Q pg rg ps:Nat):Calls Tryz.prog 15 #[cfgV cf,.pointer (some ⟨Q,0,none⟩)] w (NewSp w cf Q pg rg ps):=by
 have hmm:=@run_makeMap Tryz.prog
 have HM:=hJ (newSp_mk w cf Q pg rg ps 23 114)
 unfold cfgV
 generalize cf 0=x0 at *
 generalize cf 1=x1 at *
 generalize cf 2=x2 at *
 generalize cf 3=x3 at *
 generalize cf 4=x4 at *
 generalize cf 5=x5 at *
 generalize cf 6=x6 at *
 generalize cf 7=x7 at *
 generalize cf 8=x8 at *
 go_enter Tryz.func15,Tryz.ntmps15
 go_wp2
 go_ret
 exact HM.out
set_option maxRecDepth 100000
set_option maxHeartbeats 4000000
def pagesB (D:SpD) (at_ n:Int):Bool:=decide (1≤n∧0≤at_∧n≤D.ps∧at_≤D.ps-n)
def fitF (D:SpD) (r:List Rg×Int):List Rg×Int:=if r.2=0∧(D.rg:Int)<r.1.length then ([],6) else r
def mappedF (D:SpD) (L:List Rg) (at_ n p:Int):List Rg×Int:=if pagesB D at_ n=false then ([],1) else fitF D (mapF L at_ (at_+n) p)
def FtPost (D:SpD) (r:List Rg×Int) (B:Option Addr) (c:Nat) (w:World) (e:Ending) (w':World):Prop:=
 (∃B' c',e=.returned (.tuple #[.slice B' (fitF D r).1.length c',.int .i64 (fitF D r).2])∧((fitF D r=r∧B'=B∧c'=c)∨(fitF D r=([],6)∧B'=none∧c'=0)))∧w'=w
theorem ft_yes {D:SpD} {r:List Rg×Int} (h:¬(r.2=0∧(D.rg:Int)<r.1.length)) (B:Option Addr) (c:Nat) (w:World):FtPost D r B c w (.returned (.tuple #[.slice B r.1.length c,.int .i64 r.2])) w:=by
 unfold FtPost fitF
 rw [if_neg h]
 exact ⟨⟨B,c,rfl,.inl ⟨rfl,rfl,rfl⟩⟩,rfl⟩
theorem ft_no {D:SpD} {r:List Rg×Int} (h:r.2=0∧(D.rg:Int)<r.1.length) (B:Option Addr) (c:Nat) (w:World):FtPost D r B c w (.returned (.tuple #[.slice none 0 0,.int .i64 6])) w:=by
 unfold FtPost fitF
 rw [if_pos h]
 exact ⟨⟨none,0,rfl,.inr ⟨rfl,rfl,rfl⟩⟩,rfl⟩
section
variable {w w':World} {D:SpD} {A:Option Addr} {cap n:Nat} {L:List Rg} {m:Int→Option Int} {S:Nat→Prop}
theorem pages_b (h:SpAt w D A cap L m n) (hD:D.Ok) (at_ k:Int):Calls Tryz.prog 98 #[.pointer (some ⟨D.X,0,none⟩),.int .i64 at_,.int .i64 k] w fun e w'=>e=.returned (.bool (pagesB D at_ k))∧w'=w:=by
 have c8:=h.pages hD
 have lX:=h.ltX
 have hb8:=hD.b8
 unfold pagesB
 clear h
 by_cases h1:1≤k
 · by_cases h2:0≤at_
   · by_cases h3:k≤(D.ps:Int)
     · have hw:IntKind.i64.wrap ((D.ps:Int)-k)=(D.ps:Int)-k:=by rw [IntWalk.i64_in _ (by omega)]
       obtain ⟨z,hz⟩:∃z,(D.ps:Int)-k=z:=⟨_,rfl⟩
       rw [hz] at hw ⊢
       have e:decide (1≤k∧0≤at_∧k≤(D.ps:Int)∧at_≤z)=decide (at_≤z):=by
        by_cases h4:at_≤z
        · rw [decide_eq_true h4,decide_eq_true ⟨h1,h2,h3,h4⟩]
        · rw [decide_eq_false h4,decide_eq_false fun h=>h4 h.2.2.2]
       rw [e]
       clear e
       go_enter Tryz.func98,Tryz.ntmps98
       go_wp2
       go_ret
       exact ⟨rfl,rfl⟩
     · rw [decide_eq_false (fun h=>h3 h.2.2.1)]
       have hd:decide (k≤(D.ps:Int))=false:=decide_eq_false h3
       go_enter Tryz.func98,Tryz.ntmps98
       go_wp2
       go_ret
       exact ⟨rfl,rfl⟩
   · rw [decide_eq_false (fun h=>h2 h.2.1)]
     have hd:decide (0≤at_)=false:=decide_eq_false h2
     go_enter Tryz.func98,Tryz.ntmps98
     go_wp2
     go_ret
     exact ⟨rfl,rfl⟩
 · rw [decide_eq_false (fun h=>h1 h.1)]
   have hd:decide (1≤k)=false:=decide_eq_false h1
   go_enter Tryz.func98,Tryz.ntmps98
   go_wp2
   go_ret
   exact ⟨rfl,rfl⟩
theorem fits_b (h:SpAt w D A cap L m n) (hD:D.Ok) (B:Option Addr) (c:Nat) (r:List Rg×Int):Calls Tryz.prog 99 #[.pointer (some ⟨D.X,0,none⟩),.slice B r.1.length c,.int .i64 r.2] w (FtPost D r B c w):=by
 have HN:=hJ (fun h=>ft_no (D:=D) (r:=r) h B c w)
 have HY:=hJ (fun h=>ft_yes (D:=D) (r:=r) h B c w)
 obtain ⟨M,e⟩:=r
 have c7:=h.regs hD
 have lX:=h.ltX
 simp only
 clear h
 by_cases h1:e=0
 · subst h1
   by_cases h2:(D.rg:Int)<(M.length:Int)
   · have HF:=hJ (HN.out ⟨rfl,h2⟩)
     go_enter Tryz.func99,Tryz.ntmps99
     go_wp2
     go_ret2
     exact HF.out
   · have HF:=hJ (HY.out (fun h=>h2 h.2))
     have hd:decide ((D.rg:Int)<(M.length:Int))=false:=decide_eq_false h2
     go_enter Tryz.func99,Tryz.ntmps99
     go_wp2
     go_ret2
     exact HF.out
 · have HF:=hJ (HY.out (fun h=>h1 h.1))
   have hb:(e==0)=false:=by simp [h1]
   go_enter Tryz.func99,Tryz.ntmps99
   go_wp2
   go_ret2
   exact HF.out
theorem FtPost.rg {r:List Rg×Int} {B:Option Addr} {c:Nat} {w0:World} {e:Ending} (h:FtPost D r B c w e w') (hf:FrG w0 w (.slice B r.1.length c) r.1):RgPost w0 (fitF D r) e w':=by
 obtain ⟨⟨B',c',rfl,hc⟩,rfl⟩:=h
 refine ⟨B',c',rfl,?_⟩
 rcases hc with ⟨e,rfl,rfl⟩|⟨e,rfl,rfl⟩
 · rw [e];exact hf
 · rw [e];exact ⟨OwG.nil _ _,hf.2⟩
theorem mapped_b (h:SpAt w D A cap L m n) (hD:D.Ok) (hn:L.length≤10000) (at_ k p:Int) (hd:pagesB D at_ k=true→rightB at_ (at_+k) p=true→piecesF L at_ (at_+k)=[]→RgDist (L ++ [⟨at_,at_+k,p⟩])):
 Calls Tryz.prog 60 #[.pointer (some ⟨D.X,0,none⟩),.int .i64 at_,.int .i64 k,.int .i64 p] w (RgPost w (mappedF D L at_ k p)):=by
 have HP:=hJ (pages_b h hD at_ k)
 have H:=hJ h
 have c10:=h.c10
 have lX:=h.ltX
 unfold mappedF
 obtain ⟨b,hb⟩:∃b,pagesB D at_ k=b:=⟨_,rfl⟩
 have hbb:=hb
 rw [hb] at HP hd
 rw [hb]
 cases b with
 | false=>
   clear hb hbb hd
   go_enter Tryz.func60,Tryz.ntmps60
   go_wp2_with (go_at_call 98;refine HP.out.mono ?_;rintro e w1 ⟨rfl,rfl⟩)
   go_ret2
   exact ⟨none,0,rfl,FrG.nil _⟩
 | true=>
   have hbk:=of_decide_eq_true hb
   have hb8:=hD.b8
   have hw:IntKind.i64.wrap (at_+k)=at_+k:=by rw [IntWalk.i64_in _ (by omega)]
   have HM:=hJ (mapG_any w cap h.row hn at_ (at_+k) p (hd rfl))
   obtain ⟨R,hR⟩:∃R,mapF L at_ (at_+k) p=R:=⟨_,rfl⟩
   rw [hR] at HM
   simp only [hR,Bool.true_eq_false,if_false]
   clear hb hbb hd hbk hb8 h hR
   go_enter Tryz.func60,Tryz.ntmps60
   go_wp2_with (first
    |(go_at_call 98;refine HP.out.mono ?_;rintro e w1 ⟨rfl,rfl⟩)
    |(go_at_call 100;go_loud (refine HM.out.mono ?_;rintro e w2 ⟨B,c,rfl,hf⟩;have HF:=hJ hf;have HT:=hJ (fits_b (H.out.up hf.2) hD B c R);clear hf))
    |(go_at_call 99;go_loud (refine HT.out.mono ?_;intro e w3 hft;have HFT:=hJ (FtPost.rg hft HF.out);obtain ⟨⟨B',c',rfl,_⟩,rfl⟩:=hft)))
   go_ret2
   exact HFT.out
end
set_option maxRecDepth 100000
set_option maxHeartbeats 4000000
def TuPost (w:World) (D:SpD) (A:Option Addr) (cap:Nat) (L:List Rg) (m:Int→Option Int) (n:Nat) (R:List Rg×Int) (e:Ending) (w':World):Prop:=
 e=.returned (.int .i64 R.2)∧Off (· =D.X) w w'∧((R.2=0∧∃A' cap',SpAt w' D A' cap' R.1 m n∧∀k,rgO A' R.1.length k→w.heap.size≤k)∨(R.2≠0∧SpAt w' D A cap L m n))
section
variable {w w' w1:World} {D:SpD} {A:Option Addr} {cap n:Nat} {L:List Rg} {m:Int→Option Int} {S:Nat→Prop}
theorem turn_set (h:SpAt w D A cap L m n) {M:List Rg} {B:Option Addr} {c:Nat} (hf:FrG w w1 (.slice B M.length c) M):
 TuPost w D A cap L m n (M,0) (.returned (.int .i64 0)) (w1.setCell ⟨D.X,10,none⟩ (.slice B M.length c)):=by
 have h1:=h.up hf.2
 have ho:Off (· =D.X) w1 (w1.setCell ⟨D.X,10,none⟩ (.slice B M.length c)):=(Off.refl (· =D.X) w1).setCell (p:=⟨D.X,10,none⟩) rfl _
 have hB:∀k,rgO B M.length k→w.heap.size≤k:=fun k hk=>(hf.1.lt (hf.1.own hk)).1
 have hX:=h.ltX
 have hM:=h.mp.lt
 have ne:∀a,a≠10→(⟨D.X,a,none⟩:Addr)≠⟨D.X,10,none⟩:=fun a h e=>by injection e with _ e;exact h e
 have co:∀a,a≠10→(w1.setCell ⟨D.X,10,none⟩ (.slice B M.length c)).cell? ⟨D.X,a,none⟩=w1.cell? ⟨D.X,a,none⟩:=fun a ha=>World.cell?_setCell_other _ _ _ _ (fun e=>ne a ha e.symm)
 refine ⟨rfl,((Off.of_below hf.2).mono fun _=>False.elim).trans ho,.inl ⟨rfl,B,c,⟨fun i hi=>(co i (by omega)).trans (h1.cc i hi),(co 9 (by omega)).trans h1.c9,World.cell?_setCell_same _ _ _ h1.c10,(co 11 (by omega)).trans h1.c11,fun k=>by rw [World.frozen?_setCell];exact h1.fz k,
  hf.1.rg.off ho (fun k e hk=>?_),h1.mp.off ho (fun e=>h.neM e.symm),h.neM,⟨fun hk=>?_,fun hk=>?_⟩⟩,hB⟩⟩
 · have:=hB k hk;omega
 · have:=hB _ hk;omega
 · have:=hB _ hk;omega
theorem turn_b (h:SpAt w D A cap L m n) {f:FuncId} (hent:∀(args:Array Value) (w:World),(callFunc f args).run Tryz.prog w=.ok (.enter f args) w) {at_ k p:Int} {R:List Rg×Int} (hc:Calls Tryz.prog f #[.pointer (some ⟨D.X,0,none⟩),.int .i64 at_,.int .i64 k,.int .i64 p] w (RgPost w R)):
 Calls Tryz.prog 59 #[.pointer (some ⟨D.X,0,none⟩),.func (.func f) #[.pointer (some ⟨D.X,0,none⟩)] #[],.int .i64 at_,.int .i64 k,.int .i64 p] w (TuPost w D A cap L m n R):=by
 have H:=hJ h
 have HC:=hJ hc
 have lX:=h.ltX
 obtain ⟨M,er⟩:=R
 unfold RgPost at HC
 simp only at HC
 clear h hc
 go_enter Tryz.func59,Tryz.ntmps59
 go_upto_region 2 with (go_at_fn f;refine HC.out.mono ?_;rintro e w1 ⟨B,c,rfl,hf⟩;have HF:=hJ hf;clear hf)
 have h1:=H.out.up HF.out.2
 have c10:=h1.c10
 have fz:=h1.fz 10
 have lX1:=h1.ltX
 have H1:=hJ h1
 clear h1
 by_cases he:er=0
 · subst he
   have HT:=hJ (turn_set H.out HF.out)
   go_wp2
   go_ret
   exact HT.out
 · have hb:(er==0)=false:=by simp [he]
   have HE:=hJ he
   clear he
   go_wp2
   go_ret
   exact ⟨rfl,(Off.of_below HF.out.2).mono fun _=>False.elim,.inr ⟨HE.out,H1.out⟩⟩
theorem spMap_b (h:SpAt w D A cap L m n) (hD:D.Ok) (hn:L.length≤10000) (at_ k p:Int) (hd:pagesB D at_ k=true→rightB at_ (at_+k) p=true→piecesF L at_ (at_+k)=[]→RgDist (L ++ [⟨at_,at_+k,p⟩])):
 Calls Tryz.prog 16 #[.pointer (some ⟨D.X,0,none⟩),.int .i64 at_,.int .i64 k,.int .i64 p] w (TuPost w D A cap L m n (mappedF D L at_ k p)):=by
 have HT:=hJ (turn_b h (ent_fn Tryz.func60 (by kernel_rfl) rfl) (mapped_b h hD hn at_ k p hd))
 unfold TuPost at HT
 clear h
 go_enter Tryz.func16,Tryz.ntmps16
 go_wp2_with (go_at_call 59;refine HT.out.mono ?_;rintro e w1 ⟨rfl,hr⟩;have HR:=hJ hr;clear hr)
 go_ret
 exact ⟨rfl,HR.out⟩
end
set_option maxRecDepth 100000
set_option maxHeartbeats 4000000
def unmappedF (D:SpD) (L:List Rg) (at_ n:Int):List Rg×Int:=if pagesB D at_ n=false then ([],1) else fitF D (cutR L at_ (at_+n),0)
def protectedF (D:SpD) (L:List Rg) (at_ n p:Int):List Rg×Int:=if pagesB D at_ n=false then ([],1) else fitF D (protF L at_ (at_+n) p)
def checkF (D:SpD) (L:List Rg) (at_ n ways:Int):Int:=
 if n<0∨1048576<n∨at_<0∨((D.ps*D.pg:Nat):Int)<at_∨((D.ps*D.pg:Nat):Int)-at_<n then 1
 else if n=0 then 0
 else if allF L (at_ / D.pg) ((at_+n-1) / D.pg+1) ways=true then 0 else 4
theorem tdiv_nat (a b:Nat):((a:Int)).tdiv (b:Int)=((a / b:Nat):Int):=by
 rw [Int.tdiv_eq_ediv_of_nonneg (by omega)];simp
theorem tmod_nat (a b:Nat):((a:Int)).tmod (b:Int)=((a%b:Nat):Int):=by
 rw [Int.tmod_eq_emod_of_nonneg (by omega)];simp
section
variable {w w' w1:World} {D:SpD} {A:Option Addr} {cap n:Nat} {L:List Rg} {m:Int→Option Int} {S:Nat→Prop}
theorem unmapped_b (h:SpAt w D A cap L m n) (hD:D.Ok) (hn:L.length≤10000) (at_ k p:Int):
 Calls Tryz.prog 156 #[.pointer (some ⟨D.X,0,none⟩),.int .i64 at_,.int .i64 k,.int .i64 p] w (RgPost w (unmappedF D L at_ k)):=by
 have HP:=hJ (pages_b h hD at_ k)
 have H:=hJ h
 have c10:=h.c10
 have lX:=h.ltX
 unfold unmappedF
 obtain ⟨b,hb⟩:∃b,pagesB D at_ k=b:=⟨_,rfl⟩
 have hbb:=hb
 rw [hb] at HP
 rw [hb]
 cases b with
 | false=>
   clear hb hbb
   go_enter Tryz.func156,Tryz.ntmps156
   go_wp2_with (go_at_call 98;refine HP.out.mono ?_;rintro e w1 ⟨rfl,rfl⟩)
   go_ret2
   exact ⟨none,0,rfl,FrG.nil _⟩
 | true=>
   have hbk:=of_decide_eq_true hb
   have hb8:=hD.b8
   have hw:IntKind.i64.wrap (at_+k)=at_+k:=by rw [IntWalk.i64_in _ (by omega)]
   have HM:=hJ (unmapG_any w cap h.row (by omega) at_ (at_+k))
   obtain ⟨R,hR⟩:∃R,cutR L at_ (at_+k)=R:=⟨_,rfl⟩
   rw [hR] at HM
   simp only [hR,Bool.true_eq_false,if_false]
   clear hb hbb hbk hb8 h hR
   go_enter Tryz.func156,Tryz.ntmps156
   go_wp2_with (first
    |(go_at_call 98;refine HP.out.mono ?_;rintro e w1 ⟨rfl,rfl⟩)
    |(go_at_call 183;go_loud (refine HM.out.mono ?_;rintro e w2 ⟨B,c,rfl,hf⟩;have HF:=hJ hf;have HT:=hJ (fits_b (H.out.up hf.2) hD B c (R,0));simp only at HT;clear hf))
    |(go_at_call 99;go_loud (refine HT.out.mono ?_;intro e w3 hft;have HFT:=hJ (FtPost.rg hft HF.out);obtain ⟨⟨B',c',rfl,_⟩,rfl⟩:=hft)))
   go_ret2
   exact HFT.out
theorem protected_b (h:SpAt w D A cap L m n) (hD:D.Ok) (hn:L.length≤10000) (at_ k p:Int) (hd:pagesB D at_ k=true→rightB at_ (at_+k) p=true→allF L at_ (at_+k) 0=true→RgDist (cutR L at_ (at_+k) ++ [⟨at_,at_+k,p⟩])):
 Calls Tryz.prog 157 #[.pointer (some ⟨D.X,0,none⟩),.int .i64 at_,.int .i64 k,.int .i64 p] w (RgPost w (protectedF D L at_ k p)):=by
 have HP:=hJ (pages_b h hD at_ k)
 have H:=hJ h
 have c10:=h.c10
 have lX:=h.ltX
 unfold protectedF
 obtain ⟨b,hb⟩:∃b,pagesB D at_ k=b:=⟨_,rfl⟩
 have hbb:=hb
 rw [hb] at HP hd
 rw [hb]
 cases b with
 | false=>
   clear hb hbb hd
   go_enter Tryz.func157,Tryz.ntmps157
   go_wp2_with (go_at_call 98;refine HP.out.mono ?_;rintro e w1 ⟨rfl,rfl⟩)
   go_ret2
   exact ⟨none,0,rfl,FrG.nil _⟩
 | true=>
   have hbk:=of_decide_eq_true hb
   have hb8:=hD.b8
   have hw:IntKind.i64.wrap (at_+k)=at_+k:=by rw [IntWalk.i64_in _ (by omega)]
   have HM:=hJ (protG_any w cap h.row hn at_ (at_+k) p (hd rfl))
   obtain ⟨R,hR⟩:∃R,protF L at_ (at_+k) p=R:=⟨_,rfl⟩
   rw [hR] at HM
   simp only [hR,Bool.true_eq_false,if_false]
   clear hb hbb hd hbk hb8 h hR
   go_enter Tryz.func157,Tryz.ntmps157
   go_wp2_with (first
    |(go_at_call 98;refine HP.out.mono ?_;rintro e w1 ⟨rfl,rfl⟩)
    |(go_at_call 184;go_loud (refine HM.out.mono ?_;rintro e w2 ⟨B,c,rfl,hf⟩;have HF:=hJ hf;have HT:=hJ (fits_b (H.out.up hf.2) hD B c R);clear hf))
    |(go_at_call 99;go_loud (refine HT.out.mono ?_;intro e w3 hft;have HFT:=hJ (FtPost.rg hft HF.out);obtain ⟨⟨B',c',rfl,_⟩,rfl⟩:=hft)))
   go_ret2
   exact HFT.out
theorem spProt_b (h:SpAt w D A cap L m n) (hD:D.Ok) (hn:L.length≤10000) (at_ k p:Int) (hd:pagesB D at_ k=true→rightB at_ (at_+k) p=true→allF L at_ (at_+k) 0=true→RgDist (cutR L at_ (at_+k) ++ [⟨at_,at_+k,p⟩])):
 Calls Tryz.prog 118 #[.pointer (some ⟨D.X,0,none⟩),.int .i64 at_,.int .i64 k,.int .i64 p] w (TuPost w D A cap L m n (protectedF D L at_ k p)):=by
 have HT:=hJ (turn_b h (ent_fn Tryz.func157 (by kernel_rfl) rfl) (protected_b h hD hn at_ k p hd))
 unfold TuPost at HT
 clear h
 go_enter Tryz.func118,Tryz.ntmps118
 go_wp2_with (go_at_call 59;refine HT.out.mono ?_;rintro e w1 ⟨rfl,hr⟩;have HR:=hJ hr;clear hr)
 go_ret
 exact ⟨rfl,HR.out⟩
theorem check_b (h:SpAt w D A cap L m n) (hD:D.Ok) (hn:L.length≤10000) (at_ k ways:Int):
 Calls Tryz.prog 61 #[.pointer (some ⟨D.X,0,none⟩),.int .i64 at_,.int .i64 k,.int .i64 ways] w fun e w'=>e=.returned (.int .i64 (checkF D L at_ k ways))∧Below w.heap.size w w':=by
 have c4:=h.page hD
 have c8:=h.pages hD
 have c10:=h.c10
 have lX:=h.ltX
 have hb4:=hD.b4
 have hb8:=hD.b8
 obtain ⟨all,hall⟩:∃all,D.ps*D.pg=all:=⟨_,rfl⟩
 have hle:all≤268435456:=by rw [←hall];exact Nat.le_trans (Nat.mul_le_mul hb8.2 hb4.2) (by omega)
 have hm:IntKind.i64.wrap ((D.ps:Int)*(D.pg:Int))=(all:Int):=by rw [IntWalk.i64_in _ (by rw [←Int.natCast_mul,hall];omega),←Int.natCast_mul,hall]
 have HL:=hJ h.row
 obtain ⟨z,hz⟩:∃z,checkF D L at_ k ways=z:=⟨_,rfl⟩
 rw [hz]
 unfold checkF at hz
 rw [hall] at hz
 have HZ:=hJ hz
 clear h hz
 go_enter Tryz.func61,Tryz.ntmps61
 go_upto_region 1 with (fail)
 go_quiet (fail)
 go_upto_region 2 with (fail)
 refine wp_forget (fun V=>Below w.heap.size w V∧V.cell? ⟨D.X,4,none⟩=some (.int .i64 (D.pg:Nat))∧V.cell? ⟨D.X,10,none⟩=some (.slice A L.length cap)) ⟨⟨rfl,rfl,rfl,Nat.le_refl _,fun _ _=>rfl⟩,c4,c10⟩ ?_
 rintro V ⟨hb,d4,d10⟩
 have HB:=hJ hb
 have lX2:=lt_of_cell d4
 have HL2:=hJ (HL.out.up hb)
 clear hb c4 c8 c10 lX hm hall HL
 by_cases h1:k<0
 · have HV:Hid (z=1):=hJ (by rw [←HZ.out,if_pos (.inl h1)])
   have hd1:decide (k<0)=true:=decide_eq_true h1
   go_wp2
   go_ret
   exact ⟨by rw [HV.out];rfl,HB.out⟩
 have hd1:decide (k<0)=false:=decide_eq_false h1
 by_cases h2:1048576<k
 · have HV:Hid (z=1):=hJ (by rw [←HZ.out,if_pos (.inr (.inl h2))])
   have hd2:decide (1048576<k)=true:=decide_eq_true h2
   go_wp2
   go_ret
   exact ⟨by rw [HV.out];rfl,HB.out⟩
 have hd2:decide (1048576<k)=false:=decide_eq_false h2
 by_cases h3:at_<0
 · have HV:Hid (z=1):=hJ (by rw [←HZ.out,if_pos (.inr (.inr (.inl h3)))])
   have hd3:decide (at_<0)=true:=decide_eq_true h3
   go_wp2
   go_ret
   exact ⟨by rw [HV.out];rfl,HB.out⟩
 have hd3:decide (at_<0)=false:=decide_eq_false h3
 by_cases h4:(all:Int)<at_
 · have HV:Hid (z=1):=hJ (by rw [←HZ.out,if_pos (.inr (.inr (.inr (.inl h4))))])
   have hd4:decide ((all:Int)<at_)=true:=decide_eq_true h4
   go_wp2
   go_ret
   exact ⟨by rw [HV.out];rfl,HB.out⟩
 have hd4:decide ((all:Int)<at_)=false:=decide_eq_false h4
 have hs:IntKind.i64.wrap ((all:Int)-at_)=(all:Int)-at_:=by rw [IntWalk.i64_in _ (by omega)]
 by_cases h5:(all:Int)-at_<k
 · have HV:Hid (z=1):=hJ (by rw [←HZ.out,if_pos (.inr (.inr (.inr (.inr h5))))])
   have hd5:decide ((all:Int)-at_<k)=true:=decide_eq_true h5
   go_wp2
   go_ret
   exact ⟨by rw [HV.out];rfl,HB.out⟩
 have hd5:decide ((all:Int)-at_<k)=false:=decide_eq_false h5
 have HZ2:Hid ((if k=0 then 0 else if allF L (at_ / D.pg) ((at_+k-1) / D.pg+1) ways=true then 0 else 4)=z):=hJ (by rw [←HZ.out,if_neg (show ¬(k<0∨1048576<k∨at_<0∨(all:Int)<at_∨(all:Int)-at_<k) by omega)])
 by_cases h6:k=0
 · have HV:Hid (z=0):=hJ (by rw [←HZ2.out,if_pos h6])
   have hb6:(k==0)=true:=by simp [h6]
   have hle0:¬(all:Int)-at_<0:=by omega
   subst h6
   go_wp2
   go_ret
   exact ⟨by rw [HV.out];rfl,HB.out⟩
 have HZ3:Hid ((if allF L (at_ / D.pg) ((at_+k-1) / D.pg+1) ways=true then 0 else 4)=z):=hJ (by rw [←HZ2.out,if_neg h6])
 clear HZ HZ2
 have hb6:(k==0)=false:=by simp [h6]
 obtain ⟨a,rfl⟩:=Int.eq_ofNat_of_zero_le (show 0≤at_ by omega)
 obtain ⟨j,rfl⟩:=Int.eq_ofNat_of_zero_le (show 0≤k by omega)
 have hw1:IntKind.i64.wrap ((a:Int)+(j:Int))=(a:Int)+(j:Int):=by rw [IntWalk.i64_in _ (by omega)]
 have hw2:IntKind.i64.wrap ((a:Int)+(j:Int)-1)=(a:Int)+(j:Int)-1:=by rw [IntWalk.i64_in _ (by omega)]
 obtain ⟨q1,hq1⟩:∃q,q=a / D.pg:=⟨_,rfl⟩
 obtain ⟨q2,hq2⟩:∃q,q=(a+j-1) / D.pg:=⟨_,rfl⟩
 have i3:(D.pg:Int)≠0:=by omega
 have e0:(a:Int)+(j:Int)-1=((a+j-1:Nat):Int):=by omega
 have l1:q1≤a:=by rw [hq1];exact Nat.div_le_self _ _
 have l2:q2≤a+j:=by rw [hq2];exact Nat.le_trans (Nat.div_le_self _ _) (by omega)
 have HQ:Hid ((a:Int) / (D.pg:Int)=(q1:Int)∧((a:Int)+(j:Int)-1) / (D.pg:Int)=(q2:Int)):=hJ ⟨by rw [hq1];simp,by rw [hq2,e0];simp⟩
 have e1:((a:Int)).tdiv (D.pg:Int)=(q1:Int):=by rw [tdiv_nat,hq1]
 have e2:((a:Int)+(j:Int)-1).tdiv (D.pg:Int)=(q2:Int):=by rw [e0,tdiv_nat,hq2]
 have w3:IntKind.i64.wrap (q1:Int)=(q1:Int):=IntWalk.i64_in _ (by omega)
 have w4:IntKind.i64.wrap (q2:Int)=(q2:Int):=IntWalk.i64_in _ (by omega)
 have w5:IntKind.i64.wrap ((q2:Int)+1)=(q2:Int)+1:=IntWalk.i64_in _ (by omega)
 obtain ⟨bb,hbb⟩:∃b,allF L (q1:Int) ((q2:Int)+1) ways=b:=⟨_,rfl⟩
 have HALL:Hid (∀V',Below V.heap.size V V'→Calls Tryz.prog 101 #[.slice A L.length cap,.int .i64 (q1:Int),.int .i64 ((q2:Int)+1),.int .i64 ways] V' fun e w'=>e=.returned (.bool bb)∧Below V'.heap.size V' w'):=hJ (fun (V':World) (hb:Below V.heap.size V V')=>by
  have:=all_any V' cap (HL2.out.up hb) (by omega) (q1:Int) ((q2:Int)+1) ways
  rw [hbb] at this
  exact this)
 have HZ4:Hid ((if bb=true then 0 else 4)=z):=hJ (by rw [←HZ3.out,HQ.out.1,HQ.out.2,hbb])
 clear HZ3 HQ hbb
 clear e0 hq1 hq2 l1 l2
 go_upto_region 6 with (fail)
 refine wp_region_up (by kernel_rfl) (by kernel_rfl) ?_
 repeat (go_big_quiet_step (first|(go_at_call 101;exact Calls.up_of (HALL.out _ (Up.h _)))))
 refine wpQuiet_nil ?_
 rintro _ ⟨g,rfl⟩
 cases bb with
 | true=>
   have HV:Hid (z=0):=hJ (by rw [←HZ4.out];rfl)
   go_wp2
   go_ret
   exact ⟨by rw [HV.out];rfl,HB.out.trans (g.h.mono HB.out.size)⟩
 | false=>
   have HV:Hid (z=4):=hJ (by rw [←HZ4.out];rfl)
   go_wp2
   go_ret
   exact ⟨by rw [HV.out];rfl,HB.out.trans (g.h.mono HB.out.size)⟩
end
set_option maxRecDepth 100000
set_option maxHeartbeats 4000000
open Go.RowKit
theorem pt_info:(Tryz.prog.info? 120).map (fun i=>(i.zero,i.size,i.bytes))=some (some (.agg #[.int .i64 0,.int .i64 0,.int .i64 0]),3,24):=by kernel_rfl
def OwP (B:Nat) (w:World) (v:Value) (L:List Rg):Prop:=w.ownsRow B 120 3 v L.length (rgC L)
section
variable {B:Nat} {w w' wa:World} {v:Value} {L M:List Rg} {S:Nat→Prop}
theorem OwP.form (h:OwP B w v L):∃A c,v=.slice A L.length c∧L.length≤c:=by
 rcases h.2 with ⟨rfl,h0⟩|⟨g,cap,cur,rfl,_,_,_,hc,_⟩
 · rw [h0];exact ⟨none,0,rfl,Nat.le_refl _⟩
 · exact ⟨_,cap,rfl,by omega⟩
theorem OwP.off (h:OwP B w v L) (ho:Off S w w') (hs:∀k,v.ownBlock=some k→¬S k):OwP B w' v L:=by
 refine ⟨h.1,?_⟩
 rcases h.2 with hn|⟨g,cap,cur,rfl,hb,hgg,rest⟩
 · exact .inl hn
 · exact .inr ⟨g,cap,cur,rfl,hb,(ho.block g (Array.getElem?_eq_some_iff.1 hgg).1 (hs g rfl)).trans hgg,rest⟩
theorem OwP.up (h:OwP B w v L) (hb:Below w.heap.size w w'):OwP B w' v L:=h.off (S:=fun _=>False) (Off.of_below hb) (fun _ _=>id)
theorem OwP.lt (h:OwP B w v L) {k:Nat} (hk:v.ownBlock=some k):B≤k∧k<w.heap.size:=World.ownsRow.lt h k hk
theorem OwP.rg {A:Option Addr} {n c:Nat} (h:OwP B w (.slice A n c) L):RgAt w A L:=⟨fun hp=>by
 obtain ⟨G,cap,hG,hcap,_⟩:=World.ownsRow.form h hp
 have hlt:=World.ownsRow.lt h
 have hrow:=h
 rw [hG] at hlt
 cases hG
 refine ⟨G,0,rfl,(hlt G rfl).2,fun i x hx=>?_⟩
 have e:∀j,(⟨G,0,none⟩:Addr).add j=⟨G,j,none⟩:=fun j=>by unfold Addr.add;split<;>simp_all
 obtain ⟨h0,h1,h2⟩:=rgC_at L i x hx
 have c0:=World.ownsRow.cells hrow (g:=G) rfl _ _ h0
 have c1:=World.ownsRow.cells hrow (g:=G) rfl _ _ h1
 have c2:=World.ownsRow.cells hrow (g:=G) rfl _ _ h2
 rw [e] at c0 c1 c2
 simp only [Nat.zero_add]
 exact ⟨c0,c1,c2⟩⟩
theorem OwP.own {A:Option Addr} {n c:Nat} (h:OwP B w (.slice A n c) L) {k:Nat} (hk:rgO A n k):(Value.slice A n c).ownBlock=some k:=by
 obtain ⟨hp,o,rfl⟩:=hk
 obtain ⟨A',c',e,_⟩:=h.form
 cases e
 obtain ⟨G,cap,hG,_⟩:=World.ownsRow.form h hp
 cases hG
 rfl
theorem OwP.nil (w:World) (B:Nat):OwP B w (.slice none 0 0) []:=⟨rfl,.inl ⟨rfl,rfl⟩⟩
theorem OwP.app (h:OwP B w v L) (hBw:B≤w.heap.size) {a:Addr} {m c:Nat} (hm:m=M.length) (hM:RgAt w (some a) M) (hlen:L.length+M.length≤1000000) (ty:TypeId):
 ∃A' c' w',(Builtin.append_ #[117,117] ty #[v,.slice (some a) m c]).run Tryz.prog w=.ok (.slice A' (L ++ M).length c') w'∧OwP B w' (.slice A' (L ++ M).length c') (L ++ M)∧Off (fun k=>v.ownBlock=some k) w w'∧((Value.slice A' (L ++ M).length c').ownBlock=v.ownBlock∨(Value.slice A' (L ++ M).length c').ownBlock=some w.heap.size):=by
 subst hm
 obtain ⟨i0,hi,hz0,hz1,hz2⟩:=info_parts pt_info
 obtain ⟨v',w',hr,ho,hg,_,hat⟩:=run_append_own_at (P:=Tryz.prog) w B 117 ty 120 i0 _ 3 24 Tryz.underlying117 hi hz0 hz1 hz2 rfl (by omega) v L.length (rgC L) h a M.length c (rgC M)
  (rgC_len M) (fun j u hj=>by
   obtain ⟨x,hx,hxu⟩:=rgC_inv M j u hj
   have hp:0<M.length:=by have:=(jS.1 hx).1;omega
   obtain ⟨g,o,e,hg,hc⟩:=hM.at_ hp
   cases e
   have ea:∀j,(⟨g,o,none⟩:Addr).add j=⟨g,o+j,none⟩:=fun j=>by unfold Addr.add;split<;>simp_all
   rw [ea]
   obtain ⟨c0,c1,c2⟩:=hc _ x hx
   rcases (show j%3=0∨j%3=1∨j%3=2 by omega) with e|e|e
   · rw [e] at hxu
     rw [show o+j=o+j / 3*3 by omega,c0]
     simp [Rg.cells] at hxu;rw [hxu]
   · rw [e] at hxu
     rw [show o+j=o+j / 3*3+1 by omega,c1]
     simp [Rg.cells] at hxu;rw [hxu]
   · rw [e] at hxu
     rw [show o+j=o+j / 3*3+2 by omega,c2]
     simp [Rg.cells] at hxu;rw [hxu]) (rgC_one M) (by unfold maxLen;omega) (by omega) hBw
 have ho':OwP B w' v' (L ++ M):=by
  unfold OwP
  rw [List.length_append,rgC_app]
  exact ho
 obtain ⟨A',c',rfl,_⟩:=ho'.form
 exact ⟨A',c',w',hr,ho',grown_off hg,hat⟩
end
def FrP (w0 w:World) (v:Value) (L:List Rg):Prop:=OwP w0.heap.size w v L∧Below w0.heap.size w0 w
theorem FrP.nil (w:World):FrP w w (.slice none 0 0) []:=⟨OwP.nil _ _,Below.refl _ _⟩
theorem FrP.up {w0 w w':World} {v:Value} {L:List Rg} (h:FrP w0 w v L) (hb:Below w.heap.size w w'):FrP w0 w' v L:=⟨h.1.up hb,h.2.trans (hb.mono h.2.size)⟩
theorem FrP.push {w0 w:World} {v:Value} {L:List Rg} (h:FrP w0 w v L) (x:Rg) (t:TypeId) (hlen:L.length≤900000) (ty:TypeId):
 ∃A' c' w',(Builtin.append_ #[117,117] ty #[v,.slice (some ⟨w.heap.size,0,none⟩) 1 1]).run Tryz.prog (w.alloc (.cells #[.int .i64 x.lo,.int .i64 x.hi,.int .i64 x.pr] t))=.ok (.slice A' (L.length+1) c') w'∧FrP w0 w' (.slice A' (L.length+1) c') (L ++ [x])∧Off (fun k=>v.ownBlock=some k) w w':=by
 have hb:Below w.heap.size w (w.alloc (.cells #[.int .i64 x.lo,.int .i64 x.hi,.int .i64 x.pr] t)):=jB.alloc jN _
 have hc:∀k v,(#[.int .i64 x.lo,.int .i64 x.hi,.int .i64 x.pr]:Array Value)[k]? =some v→(w.alloc (.cells #[.int .i64 x.lo,.int .i64 x.hi,.int .i64 x.pr] t)).cell? ⟨w.heap.size,k,none⟩=some v:=fun k v hv=>by
  rw [cell_of_row _ _ _ _ _ _ (heap_alloc_new w _)];exact hv
 have hrow:RgAt (w.alloc (.cells #[.int .i64 x.lo,.int .i64 x.hi,.int .i64 x.pr] t)) (some ⟨w.heap.size,0,none⟩) [x]:=⟨fun _=>⟨w.heap.size,0,rfl,by simp,fun i y hy=>by
  cases i with
  |zero=>simp at hy;subst hy;exact ⟨hc 0 _ rfl,hc 1 _ rfl,hc 2 _ rfl⟩
  |succ i=>simp at hy⟩⟩
 have hbs:=hb.size
 have hob:Off (fun k=>v.ownBlock=some k) w (w.alloc (.cells #[.int .i64 x.lo,.int .i64 x.hi,.int .i64 x.pr] t)):=Off.of_below hb
 generalize w.alloc (.cells #[.int .i64 x.lo,.int .i64 x.hi,.int .i64 x.pr] t)=W1 at *
 have h1:=h.up hb
 have hs:=h.2.size
 obtain ⟨A',c',w',hr,ho,hof,hat⟩:=h1.1.app (M:=[x]) (m:=1) (c:=1) (by omega) rfl hrow (by simp;omega) ty
 rw [List.length_append,List.length_singleton] at hr ho hat
 exact ⟨A',c',w',hr,⟨ho,h1.2.trans (hof.below (fun k e=>(h1.1.lt e).1) h1.2.size)⟩,hob.trans hof⟩
end Go.Proofs.YtlhfjaagkgengaaGreat
