/- The document's machine: its numbers of processes; what may be asked. -/
import Derived.Test.YtlhfjaagkgengaaGreatPC33
namespace Go.Proofs.YtlhfjaagkgengaaGreat
set_option maxRecDepth 100000
set_option maxHeartbeats 4000000
open Go.RowKit Go.Maps
set_option linter.unusedVariables false
set_option linter.unusedSimpArgs false
section
variable {w w':World} {D:MaD} {B:List Bool} {Q:List (Option Nat)}
def hasF (B:List Bool) (pid:Int):Bool:=decide (0≤pid) && (B.getD pid.toNat false)
theorem MaF.bAt (h:MaF w D B Q):∃g,D.BA=some ⟨g,0,none⟩∧g<w.heap.size∧(∀i x,B[i]? =some x→w.cell? ⟨g,i,none⟩=some (.bool x))∧∀i,w.frozen? ⟨g,i,none⟩=false:=by
 have hb:=h.bo
 have hn:=h.lB
 have hp:1≤D.n:=by have:=h.good.2.1;have:=h.en;omega
 unfold MaD.bv at hb
 rcases hb.cases with ⟨_,h0,_⟩|⟨g,hg⟩
 · omega
 · rw [hg] at hb
   obtain ⟨g',o,e,hlt,hc⟩:=hb.rg.at_ (by omega)
   cases e
   refine ⟨g,hg,hlt,fun i x hx=>?_,fun i=>?_⟩
   · have:=hc i x hx 0 _ rfl
     simpa [boE] using this
   · exact hb.frozen rfl i
theorem MaF.qAt (h:MaF w D B Q):∃g,D.QA=some ⟨g,0,none⟩∧g<w.heap.size∧(∀i x,Q[i]? =some x→w.cell? ⟨g,i,none⟩=some (.pointer (x.map fun g=>⟨g,0,none⟩)))∧∀i,w.frozen? ⟨g,i,none⟩=false:=by
 have hb:=h.pr
 have hn:=h.lQ
 have hp:1≤D.n:=by have:=h.good.2.1;have:=h.en;omega
 unfold MaD.qv at hb
 rcases hb.cases with ⟨_,h0,_⟩|⟨g,hg⟩
 · omega
 · rw [hg] at hb
   obtain ⟨g',o,e,hlt,hc⟩:=hb.rg.at_ (by omega)
   cases e
   refine ⟨g,hg,hlt,fun i x hx=>?_,fun i=>?_⟩
   · have:=hc i x hx 0 _ rfl
     simpa [prE] using this
   · exact hb.frozen rfl i
theorem npHas_any (h:MaF w D B Q) (pid:Int):Calls Tryz.prog 136 #[.pointer (some ⟨D.S,0,none⟩),.int .i64 pid] w fun e w'=>e=.returned (.bool (hasF B pid))∧w'=w:=by
 obtain ⟨g,hg,lg,hc,_⟩:=h.bAt
 have s0:=h.s0
 have lS:=h.ltS
 have hn:=h.lB
 unfold MaD.bv at s0
 rw [hg] at s0
 have HC:=hJ hc
 obtain ⟨z,hz⟩:∃z,hasF B pid=z:=⟨_,rfl⟩
 have HZ:=hJ hz
 rw [hz]
 clear h hc hz
 by_cases h1:0≤pid
 · obtain ⟨k,rfl⟩:=Int.eq_ofNat_of_zero_le h1
   by_cases h2:k<D.n
   · obtain ⟨b,hb⟩:∃b,B[k]? =some b:=⟨_,jE (by omega)⟩
     have c0:=HC.out k b hb
     have hzb:Hid (z=b):=hJ (by rw [←HZ.out];unfold hasF;rw [decide_eq_true h1,Int.toNat_natCast,List.getD_eq_getElem?_getD,hb];rfl)
     have hkI:(k:Int)<(D.n:Int):=by omega
     clear hb HC HZ
     cases b with
     | true=>
       go_enter Tryz.func136,Tryz.ntmps136
       go_wp2
       go_ret
       exact ⟨ret_bool hzb.out.symm,rfl⟩
     | false=>
       go_enter Tryz.func136,Tryz.ntmps136
       go_wp2
       go_ret
       exact ⟨ret_bool hzb.out.symm,rfl⟩
   · have hzb:Hid (z=false):=hJ (by rw [←HZ.out];unfold hasF;rw [Int.toNat_natCast,List.getD_eq_getElem?_getD,List.getElem?_eq_none (by omega)];simp)
     have hkI:¬(k:Int)<(D.n:Int):=by omega
     clear HC HZ
     go_enter Tryz.func136,Tryz.ntmps136
     go_wp2
     go_ret
     exact ⟨ret_bool hzb.out.symm,rfl⟩
 · have hzb:Hid (z=false):=hJ (by rw [←HZ.out];unfold hasF;rw [decide_eq_false h1];rfl)
   clear HC HZ
   go_enter Tryz.func136,Tryz.ntmps136
   go_wp2
   go_ret
   exact ⟨ret_bool hzb.out.symm,rfl⟩
def pidU (B:List Bool) (j:Nat):List Int:=((List.range j).filter fun i=>B.getD i false).map fun i:Nat=>(i:Int)
def pidsF (B:List Bool):List Int:=pidU B B.length
theorem pidU_snoc (B:List Bool) (j:Nat):pidU B (j+1)=pidU B j ++ (if B.getD j false=true then [(j:Int)] else []):=by
 unfold pidU
 rw [List.range_succ,List.filter_append,List.map_append,List.filter_cons]
 split<;>rfl
theorem pidU_len (B:List Bool) (j:Nat):(pidU B j).length≤j:=by
 unfold pidU
 rw [List.length_map]
 have:=List.length_filter_le (fun i=>B.getD i false) (List.range j)
 simp only [List.length_range] at this
 exact this
theorem npList_any (h:MaF w D B Q):Calls Tryz.prog 52 #[.pointer (some ⟨D.S,0,none⟩)] w fun e w'=>∃A' c',e=.returned (.slice A' (pidsF B).length c')∧FrE inE w w' (.slice A' (pidsF B).length c') (pidsF B):=by
 have H:=hJ h
 have hn:=h.lB
 have hnb:D.n≤64:=by have:=h.good.2.1;have:=h.en;omega
 obtain ⟨R,hR⟩:∃R,pidsF B=R:=⟨_,rfl⟩
 have HR:Hid (pidU B D.n=R):=hJ (by rw [←hR,←hn];rfl)
 rw [hR]
 clear h hR
 go_enter Tryz.func52,Tryz.ntmps52
 go_wp2
 go_loopw [3,4] (fun v i wr=>∃(j:Nat) (A':Option Addr) (c' q:Nat),j≤D.n∧i=.int .i64 (j:Nat)∧v=.slice A' q c'∧Hid (q=(pidU B j).length)∧FrE inE w wr (.slice A' q c') (pidU B j)) (fun _ i _=>D.n-(intOf i).toNat)
 case atStart=>exact ⟨0,none,0,0,Nat.zero_le _,rfl,rfl,hJ rfl,FrE.nil inE w⟩
 case round=>
  obtain ⟨j,A1,c1,q,hj,rfl,rfl,HQ,hfr⟩:=hrel
  have HFR:=hJ hfr
  have hm:=H.out.up hfr.2
  obtain ⟨g,hg,lg,hc,_⟩:=hm.bAt
  have s0:=hm.s0
  have lS:=hm.ltS
  unfold MaD.bv at s0
  rw [hg] at s0
  by_cases hlt:j<D.n
  · obtain ⟨b,hb⟩:∃b,B[j]? =some b:=⟨_,jE (by omega)⟩
    have c0:=hc j b hb
    have hjI:(j:Int)<(D.n:Int):=by omega
    have hbd:B.getD j false=b:=by rw [List.getD_eq_getElem?_getD,hb];rfl
    have HS:=hJ (pidU_snoc B j)
    rw [hbd] at HS
    have hpl:=pidU_len B j
    obtain ⟨A2,c2,w3,hr3,hf3,_⟩:=hfr.push (j:Int) 3 (by omega) 25
    rw [←HQ.out] at hr3 hf3
    clear hm hc hb hbd hfr
    cases b with
    | true=>
      rw [if_pos rfl] at HS
      rw [←HS.out] at hf3
      have HF3:=hJ hf3
      have HQ3:Hid (q+1=(pidU B (j+1)).length):=hJ (by rw [HS.out,List.length_append,←HQ.out];rfl)
      clear hf3 hpl
      go_wp2_with (at_builtin;go_must (refine wpList_append_run rfl (.tmp 21) (.tmp 23) 25 rfl _ _ rfl rfl hr3 ?_))
      go_roundw
      case rel=>exact ⟨j+1,A2,c2,q+1,hlt,by go_num,rfl,HQ3,HF3.out⟩
      case measure=>simp [intOf];omega
    | false=>
      rw [if_neg (by simp),List.append_nil] at HS
      clear hf3 hr3 hpl
      go_wp2
      go_roundw
      case rel=>exact ⟨j+1,A1,c1,q,hlt,by go_num,rfl,hJ (by rw [HS.out];exact HQ.out),by rw [HS.out];exact HFR.out⟩
      case measure=>simp [intOf];omega
  · obtain rfl:j=D.n:=by omega
    have hii:¬(D.n:Int)<(D.n:Int):=by omega
    rw [HR.out] at HQ HFR
    have hq:=HQ.out
    subst hq
    clear hm hc hfr
    go_wp2
    go_ret
    exact ⟨A1,c1,rfl,HFR.out⟩
def TkPost (w:World) (D:MaD) (B:List Bool) (e:Ending) (w':World):Prop:=
 (∃(k g:Nat),k<D.n∧B[k]? =some false∧(∀i,i<k→B[i]? =some true)∧D.BA=some ⟨g,0,none⟩∧e=.returned (.tuple #[.int .i64 (k:Nat),.int .i64 0])∧w'=w.setCell ⟨g,k,none⟩ (.bool true))∨
 ((∀i,i<D.n→B[i]? =some true)∧e=.returned (.tuple #[.int .i64 0,.int .i64 5])∧w'=w)
theorem npTake_any (h:MaF w D B Q):Calls Tryz.prog 112 #[.pointer (some ⟨D.S,0,none⟩)] w (TkPost w D B):=by
 obtain ⟨g,hg,lg,hc,hf⟩:=h.bAt
 have s0:=h.s0
 have lS:=h.ltS
 have hn:=h.lB
 unfold MaD.bv at s0
 rw [hg] at s0
 have HG:=hJ hg
 have HC:=hJ hc
 have HF:=hJ hf
 have HN:=hJ hn
 have hnb:D.n≤64:=by have:=h.good.2.1;have:=h.en;omega
 clear h hc hf hn hg
 go_enter Tryz.func112,Tryz.ntmps112
 go_wp2
 go_loop [4] (fun i=>∃j:Nat,j≤D.n∧i=.int .i64 (j:Nat)∧Hid (∀i,i<j→B[i]? =some true)) (fun i=>D.n-(intOf i).toNat)
 case atStart=>exact ⟨0,Nat.zero_le _,rfl,hJ fun i hi=>by omega⟩
 case round=>
  obtain ⟨j,hj,rfl,HJ⟩:=hrel
  by_cases hlt:j<D.n
  · obtain ⟨b,hb⟩:∃b,B[j]? =some b:=⟨_,jE (by have:=HN.out;omega)⟩
    have c0:=HC.out j b hb
    have f0:=HF.out j
    have hjI:(j:Int)<(D.n:Int):=by omega
    have HB:=hJ hb
    clear hb
    cases b with
    | true=>
      have hJ2:=hJ (show ∀i,i<j+1→B[i]? =some true from fun i hi=>by
       rcases Nat.lt_or_ge i j with h|h
       · exact HJ.out i h
       · rw [show i=j by omega];exact HB.out)
      go_wp2
      go_round
      case rel=>exact ⟨j+1,hlt,by go_num,hJ2⟩
      case measure=>simp [intOf];omega
    | false=>
      go_wp2
      go_ret2
      exact .inl ⟨j,g,hlt,HB.out,HJ.out,HG.out,rfl,rfl⟩
  · obtain rfl:j=D.n:=by omega
    have hii:¬(D.n:Int)<(D.n:Int):=by omega
    go_wp2
    go_ret2
    exact .inr ⟨HJ.out,rfl,rfl⟩
theorem npFree_any (h:MaF w D B Q) {k:Nat} (hk:B[k]? =some true):Calls Tryz.prog 116 #[.pointer (some ⟨D.S,0,none⟩),.int .i64 (k:Nat)] w fun e w'=>e=.returned (.int .i64 0)∧∃g,D.BA=some ⟨g,0,none⟩∧w'=w.setCell ⟨g,k,none⟩ (.bool false):=by
 obtain ⟨g,hg,lg,hc,hf⟩:=h.bAt
 have s0:=h.s0
 have lS:=h.ltS
 have hn:=h.lB
 have hkl:=(jS.1 hk).1
 have hkI:(k:Int)<(D.n:Int):=by omega
 unfold MaD.bv at s0
 rw [hg] at s0
 have c0:=hc k _ hk
 have f0:=hf k
 have HH:Hid (Calls Tryz.prog 136 #[.pointer (some ⟨D.S,0,none⟩),.int .i64 (k:Nat)] w fun e w'=>e=.returned (.bool true)∧w'=w):=hJ (by
  have:=npHas_any h (k:Nat)
  rw [show hasF B (k:Nat)=true by unfold hasF;rw [decide_eq_true (by omega),Int.toNat_natCast,List.getD_eq_getElem?_getD,hk];rfl] at this
  exact this)
 have HG:=hJ hg
 clear h hc hf hn hg hk
 go_enter Tryz.func116,Tryz.ntmps116
 go_wp2_with (go_at_call 136;refine HH.out.mono ?_;rintro e w' ⟨rfl,rfl⟩)
 go_ret
 exact ⟨rfl,g,HG.out,rfl⟩
theorem maStretch_any (h:MaF w D B Q) (at_ n:Int):Calls Tryz.prog 151 #[.pointer (some ⟨D.X,0,none⟩),.int .i64 at_,.int .i64 n] w fun e w'=>e=.returned (.bool (pagesB D.sd at_ n))∧w'=w:=by
 have c8:=h.cc 8 (by omega)
 have lX:=h.ltX
 rw [h.ep] at c8
 have hb:=h.sok.b8
 obtain ⟨z,hz⟩:∃z,pagesB D.sd at_ n=z:=⟨_,rfl⟩
 have HZ:Hid (decide (1≤n∧0≤at_∧n≤(D.ps:Nat)∧at_≤(D.ps:Nat)-n)=z):=hJ hz
 rw [hz]
 change 1≤D.ps∧D.ps≤65536 at hb
 clear h hz
 by_cases h1:0≤at_
 · by_cases h2:1≤n
   · by_cases h3:at_≤(D.ps:Int)
     · have hs:IntKind.i64.wrap ((D.ps:Int)-at_)=(D.ps:Int)-at_:=IntWalk.i64_in _ (by omega)
       by_cases h4:n≤(D.ps:Int)-at_
       · have hzb:Hid (true=z):=hJ (by rw [←HZ.out];exact (decide_eq_true (by omega)).symm)
         clear HZ
         go_enter Tryz.func151,Tryz.ntmps151
         go_wp2
         go_ret
         exact ⟨ret_bool hzb.out,rfl⟩
       · have hzb:Hid (false=z):=hJ (by rw [←HZ.out];exact (decide_eq_false (by omega)).symm)
         clear HZ
         go_enter Tryz.func151,Tryz.ntmps151
         go_wp2
         go_ret
         exact ⟨ret_bool hzb.out,rfl⟩
     · have hzb:Hid (false=z):=hJ (by rw [←HZ.out];exact (decide_eq_false (by omega)).symm)
       clear HZ
       go_enter Tryz.func151,Tryz.ntmps151
       go_wp2
       go_ret
       exact ⟨ret_bool hzb.out,rfl⟩
   · have hzb:Hid (false=z):=hJ (by rw [←HZ.out];exact (decide_eq_false (by omega)).symm)
     clear HZ
     go_enter Tryz.func151,Tryz.ntmps151
     go_wp2
     go_ret
     exact ⟨ret_bool hzb.out,rfl⟩
 · have hzb:Hid (false=z):=hJ (by rw [←HZ.out];exact (decide_eq_false (by omega)).symm)
   clear HZ
   go_enter Tryz.func151,Tryz.ntmps151
   go_wp2
   go_ret
   exact ⟨ret_bool hzb.out,rfl⟩
theorem maBytes_any (h:MaF w D B Q) {p:MPr} (hp:PrAt w D.z p) (hr:rightL D.ps p.R=true) (hn:p.R.length≤5000) (at_ k ways:Int):
 Calls Tryz.prog 137 #[.pointer (some ⟨D.X,0,none⟩),.pointer (some ⟨p.X,0,none⟩),.int .i64 at_,.int .i64 k,.int .i64 ways] w fun e w'=>e=.returned (.int .i64 (checkF D.sd p.R at_ k ways))∧Below w.heap.size w w':=by
 have c4:=h.cc 4 (by omega)
 have c8:=h.cc 8 (by omega)
 rw [h.ez] at c4
 rw [h.ep] at c8
 have lX:=h.ltX
 have c10:=hp.c0
 have lP:=hp.ltX
 have hb4:=h.sok.b4
 have hb8:=h.sok.b8
 change 16≤D.z∧D.z≤4096 at hb4
 change 1≤D.ps∧D.ps≤65536 at hb8
 have hri:=right_iff.1 hr
 have HCAN:Hid (SrtR 0 p.R∧∀r∈p.R,r.pr≠ -1):=hJ ⟨hri.1.srt,fun r hr=>by have:=hri.2 r hr;omega⟩
 have HL:=hJ hp.rg
 obtain ⟨X,A,cap,L,_,_,_⟩:=p
 unfold MPr.rv at c10
 simp only at c10 HL HCAN lP hn ⊢
 obtain ⟨all,hall⟩:∃all,D.ps*D.z=all:=⟨_,rfl⟩
 have hle:all≤268435456:=by rw [←hall];exact Nat.le_trans (Nat.mul_le_mul hb8.2 hb4.2) (by omega)
 have hm:IntKind.i64.wrap ((D.ps:Int)*(D.z:Int))=(all:Int):=by rw [IntWalk.i64_in _ (by rw [←Int.natCast_mul,hall];omega),←Int.natCast_mul,hall]
 obtain ⟨z,hz⟩:∃z,checkF D.sd L at_ k ways=z:=⟨_,rfl⟩
 rw [hz]
 unfold checkF at hz
 change (if k<0∨1048576<k∨at_<0∨((D.ps*D.z:Nat):Int)<at_∨((D.ps*D.z:Nat):Int)-at_<k then 1 else if k=0 then 0 else if allF L (at_ / D.z) ((at_+k-1) / D.z+1) ways=true then 0 else 4)=z at hz
 rw [hall] at hz
 have HZ:=hJ hz
 clear h hz hp hr hri
 go_enter Tryz.func137,Tryz.ntmps137
 go_upto_region 1 with (fail)
 go_quiet (fail)
 go_upto_region 2 with (fail)
 refine wp_forget (fun V=>Below w.heap.size w V∧V.cell? ⟨D.X,4,none⟩=some (.int .i64 (D.z:Nat))∧V.cell? ⟨X,0,none⟩=some (.slice A L.length cap)) ⟨⟨rfl,rfl,rfl,Nat.le_refl _,fun _ _=>rfl⟩,c4,c10⟩ ?_
 rintro V ⟨hb,d4,d10⟩
 have HB:=hJ hb
 have lX2:=lt_of_cell d4
 have lP2:=lt_of_cell d10
 have HL2:=hJ (HL.out.up hb)
 clear hb c4 c8 c10 lX lP hm hall HL
 by_cases h1:k<0
 · have HV:Hid (z=1):=hJ (by rw [←HZ.out,if_pos (.inl h1)])
   have hd1:decide (k<0)=true:=decide_eq_true h1
   go_wp2
   go_ret
   exact ⟨by rw [HV.out];rfl,HB.out⟩
 have hd1:decide (k<0)=false:=decide_eq_false h1
 by_cases h2:1048576<k
 · have HV:Hid (z=1):=hJ (by rw [←HZ.out,if_pos (.inr (.inl h2))])
   have hd2:decide (1048576<k)=true:=decide_eq_true h2
   go_wp2
   go_ret
   exact ⟨by rw [HV.out];rfl,HB.out⟩
 have hd2:decide (1048576<k)=false:=decide_eq_false h2
 by_cases h3:at_<0
 · have HV:Hid (z=1):=hJ (by rw [←HZ.out,if_pos (.inr (.inr (.inl h3)))])
   have hd3:decide (at_<0)=true:=decide_eq_true h3
   go_wp2
   go_ret
   exact ⟨by rw [HV.out];rfl,HB.out⟩
 have hd3:decide (at_<0)=false:=decide_eq_false h3
 by_cases h4:(all:Int)<at_
 · have HV:Hid (z=1):=hJ (by rw [←HZ.out,if_pos (.inr (.inr (.inr (.inl h4))))])
   have hd4:decide ((all:Int)<at_)=true:=decide_eq_true h4
   go_wp2
   go_ret
   exact ⟨by rw [HV.out];rfl,HB.out⟩
 have hd4:decide ((all:Int)<at_)=false:=decide_eq_false h4
 have hs:IntKind.i64.wrap ((all:Int)-at_)=(all:Int)-at_:=by rw [IntWalk.i64_in _ (by omega)]
 by_cases h5:(all:Int)-at_<k
 · have HV:Hid (z=1):=hJ (by rw [←HZ.out,if_pos (.inr (.inr (.inr (.inr h5))))])
   have hd5:decide ((all:Int)-at_<k)=true:=decide_eq_true h5
   go_wp2
   go_ret
   exact ⟨by rw [HV.out];rfl,HB.out⟩
 have hd5:decide ((all:Int)-at_<k)=false:=decide_eq_false h5
 have HZ2:Hid ((if k=0 then 0 else if allF L (at_ / D.z) ((at_+k-1) / D.z+1) ways=true then 0 else 4)=z):=hJ (by rw [←HZ.out,if_neg (show ¬(k<0∨1048576<k∨at_<0∨(all:Int)<at_∨(all:Int)-at_<k) by omega)])
 by_cases h6:k=0
 · have HV:Hid (z=0):=hJ (by rw [←HZ2.out,if_pos h6])
   have hb6:(k==0)=true:=by simp [h6]
   have hle0:¬(all:Int)-at_<0:=by omega
   subst h6
   go_wp2
   go_ret
   exact ⟨by rw [HV.out];rfl,HB.out⟩
 have HZ3:Hid ((if allF L (at_ / D.z) ((at_+k-1) / D.z+1) ways=true then 0 else 4)=z):=hJ (by rw [←HZ2.out,if_neg h6])
 clear HZ HZ2
 have hb6:(k==0)=false:=by simp [h6]
 obtain ⟨a,rfl⟩:=Int.eq_ofNat_of_zero_le (show 0≤at_ by omega)
 obtain ⟨j,rfl⟩:=Int.eq_ofNat_of_zero_le (show 0≤k by omega)
 have hw1:IntKind.i64.wrap ((a:Int)+(j:Int))=(a:Int)+(j:Int):=by rw [IntWalk.i64_in _ (by omega)]
 have hw2:IntKind.i64.wrap ((a:Int)+(j:Int)-1)=(a:Int)+(j:Int)-1:=by rw [IntWalk.i64_in _ (by omega)]
 obtain ⟨q1,hq1⟩:∃q,q=a / D.z:=⟨_,rfl⟩
 obtain ⟨q2,hq2⟩:∃q,q=(a+j-1) / D.z:=⟨_,rfl⟩
 have i3:(D.z:Int)≠0:=by omega
 have e0:(a:Int)+(j:Int)-1=((a+j-1:Nat):Int):=by omega
 have l1:q1≤a:=by rw [hq1];exact Nat.div_le_self _ _
 have l2:q2≤a+j:=by rw [hq2];exact Nat.le_trans (Nat.div_le_self _ _) (by omega)
 have l3:q1≤q2:=by rw [hq1,hq2];exact Nat.div_le_div_right (by omega)
 have HQ:Hid ((a:Int) / (D.z:Int)=(q1:Int)∧((a:Int)+(j:Int)-1) / (D.z:Int)=(q2:Int)):=hJ ⟨by rw [hq1];simp,by rw [hq2,e0];simp⟩
 have e1:((a:Int)).tdiv (D.z:Int)=(q1:Int):=by rw [tdiv_nat,hq1]
 have e2:((a:Int)+(j:Int)-1).tdiv (D.z:Int)=(q2:Int):=by rw [e0,tdiv_nat,hq2]
 have w3:IntKind.i64.wrap (q1:Int)=(q1:Int):=IntWalk.i64_in _ (by omega)
 have w4:IntKind.i64.wrap (q2:Int)=(q2:Int):=IntWalk.i64_in _ (by omega)
 have w5:IntKind.i64.wrap ((q2:Int)+1)=(q2:Int)+1:=IntWalk.i64_in _ (by omega)
 obtain ⟨bb,hbb⟩:∃b,allF L (q1:Int) ((q2:Int)+1) ways=b:=⟨_,rfl⟩
 have HALL:Hid (∀V',Below V.heap.size V V'→Calls Tryz.prog 167 #[.slice A L.length cap,.int .i64 (q1:Int),.int .i64 ((q2:Int)+1),.int .i64 ways] V' fun e w'=>e=.returned (.bool bb)∧Below V'.heap.size V' w'):=hJ (fun (V':World) (hb:Below V.heap.size V V')=>by
  have:=rAll_any V' cap (q1:Int) ((q2:Int)+1) ways (HL2.out.up hb) (by omega) HCAN.out.1 HCAN.out.2 (by omega)
  rw [hbb] at this
  exact this)
 have HZ4:Hid ((if bb=true then 0 else 4)=z):=hJ (by rw [←HZ3.out,HQ.out.1,HQ.out.2,hbb])
 clear HZ3 HQ hbb
 clear e0 hq1 hq2 l1 l2 l3
 go_upto_region 6 with (fail)
 refine wp_region_up (by kernel_rfl) (by kernel_rfl) ?_
 repeat (go_big_quiet_step (first|(go_at_call 167;exact Calls.up_of (HALL.out _ (Up.h _)))))
 refine wpQuiet_nil ?_
 rintro _ ⟨g,rfl⟩
 cases bb with
 | true=>
   have HV:Hid (z=0):=hJ (by rw [←HZ4.out];rfl)
   go_wp2
   go_ret
   exact ⟨by rw [HV.out];rfl,HB.out.trans (g.h.mono HB.out.size)⟩
 | false=>
   have HV:Hid (z=4):=hJ (by rw [←HZ4.out];rfl)
   go_wp2
   go_ret
   exact ⟨by rw [HV.out];rfl,HB.out.trans (g.h.mono HB.out.size)⟩
end
end Go.Proofs.YtlhfjaagkgengaaGreat
