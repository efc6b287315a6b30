/- almanacref15: cuts. -/
import Derived.Test.YtlhfjaagkgengaaGreatPC30
import Derived.Test.YtlhfjaagkgengaaGreatPC18
import Derived.Deep.RegionLaw
namespace Go.Proofs.YtlhfjaagkgengaaGreat
set_option maxRecDepth 100000
set_option maxHeartbeats 8000000
open Go.RowKit Go.Maps
set_option linter.unusedVariables false
set_option linter.unusedSimpArgs false
theorem insC_same:∀(L:List Int) (k:Nat) (y:Int),(∀i x,i<k→L[i]? =some x→x<y)→L[k]? =some y→insC L y=L
 |[],k,y,_,h=>by simp at h
 | c::L,0,y,_,h=>by
   simp at h
   subst h
   unfold insC
   rw [if_neg (by omega),if_pos rfl]
 | c::L,k+1,y,h,hk=>by
   unfold insC
   rw [if_pos (h 0 c (by omega) rfl),insC_same L k y (fun i x hi hx=>h (i+1) x (by omega) hx) hk]
theorem insC_put:∀(L:List Int) (k:Nat) (y:Int),k≤L.length→(∀i x,i<k→L[i]? =some x→x<y)→(∀x,L[k]? =some x→y<x)→insC L y=L.take k ++ ([y] ++ L.drop k)
 | [],k,y,hk,_,_=>by
   obtain rfl:k=0:=by simpa using hk
   rfl
 | c::L,0,y,_,_,h=>by
   have:=h c rfl
   unfold insC
   rw [if_neg (by omega),if_neg (by omega)]
   rfl
 | c::L,k+1,y,hk,h,h2=>by
   unfold insC
   rw [if_pos (h 0 c (by omega) rfl),insC_put L k y (by simpa using hk) (fun i x hi hx=>h (i+1) x (by omega) hx) h2]
   rfl
theorem endsR_take {L:List Rg} {j:Nat} {r:Rg} (h:L[j]? =some r):endsR (L.take (j+1))=endsR (L.take j) ++ [r.lo,r.hi]:=by
 unfold endsR
 rw [List.take_add_one,h]
 simp
theorem endsR_len (L:List Rg):(endsR L).length=2*L.length:=by
 induction L with
 |nil=>rfl
 | cons r L ih=>
   unfold endsR at ih ⊢
   rw [List.flatMap_cons,List.length_append,ih]
   simp
   omega
theorem insC_len (L:List Int) (y:Int):(insC L y).length≤L.length+1:=by
 induction L with
 |nil=>simp [insC]
 | cons c L ih=>
   unfold insC
   split
   · simp only [List.length_cons];omega
   · split
     · simp
     · simp
theorem foldC_len:∀(l out:List Int),(l.foldl insC out).length≤out.length+l.length
 |[],out=>by simp
 | y::l,out=>by
   have:=foldC_len l (insC out y)
   have:=insC_len out y
   rw [List.foldl_cons,List.length_cons]
   omega
theorem eO_ne {G G' n c k:Nat} (h:G≠G'):∀q,(Value.slice (some ⟨G,0,none⟩) n c).ownBlock=some q→¬eO (some ⟨G',0,none⟩) k q:=by
 rintro q e ⟨_,o,e2⟩
 cases e
 cases e2
 exact h rfl
theorem cuts_any (w : World) {A:Option Addr} {g o:Nat} {L:List Rg} {more:List Int} (cA cB:Nat) (hL:RgAt w A L) (hM:EAt inE w (some ⟨g,o,none⟩) more) (hn:L.length≤10000) (hm:more.length≤10000):
 Calls Tryz.prog 188 #[.slice A L.length cA,.slice (some ⟨g,o,none⟩) more.length cB] w fun e w'=>∃A' c',e=.returned (.slice A' (cutsF L more).length c')∧FrE inE w w' (.slice A' (cutsF L more).length c') (cutsF L more):=by
 obtain ⟨A1,c1,w1,hr1,hf1,_⟩:=(FrE.lit inE w).app (M:=more) (c:=cB) (hM.up (jB.alloc jN _)) (by simp;omega) 25
 simp only [List.nil_append] at hr1 hf1
 have HL:=hJ hL
 have HF1:=hJ hf1
 obtain ⟨R,hR⟩:∃R,R=cutsF L more:=⟨_,rfl⟩
 rw [←hR]
 have HR0:=hJ hR
 clear hL hM hf1 hR
 go_enter Tryz.func188,Tryz.ntmps188
 go_wp2_with (at_builtin;go_must (refine wpList_append_run2 rfl (.tmp 11) (.tmp 12) 25 25 rfl _ _ rfl rfl hr1 ?_))
 clear hr1
 go_loopw [6,7] (fun v i wr=>∃(j:Nat) (A':Option Addr) (c' q:Nat),j≤L.length∧i=.int .i64 (j:Nat)∧v=.slice A' q c'∧Hid (q=(more ++ endsR (L.take j)).length)∧FrE inE w wr (.slice A' q c') (more ++ endsR (L.take j))) (fun _ i _=>L.length-(intOf i).toNat)
 case atStart=>exact ⟨0,A1,c1,more.length,Nat.zero_le _,rfl,rfl,hJ (by simp [endsR]),by have h:=HF1.out;simpa [endsR] using h⟩
 case round=>
  obtain ⟨j,A2,c2,q,hj,rfl,rfl,HQ,hf⟩:=hrel
  have HF:=hJ hf
  have hb:=hf.2
  by_cases hlt:j<L.length
  · obtain ⟨r,hr⟩:∃r,L[j]? =some r:=⟨_,jE hlt⟩
    obtain ⟨gl,ol,rfl,hgl,hcl⟩:=HL.out.at_ (by omega)
    obtain ⟨r0,r1,_⟩:=hcl j r hr
    have q0:=(hb.cell (p:=⟨gl,_,none⟩) hgl).trans r0
    have q1:=(hb.cell (p:=⟨gl,_,none⟩) hgl).trans r1
    have hjI:(j:Int)<(L.length:Int):=by omega
    have hb1:Below wr.heap.size wr (wr.alloc (.cells #[.int .i64 r.lo,.int .i64 r.hi] 3)).drew:=(jB.alloc jN _).drew
    have hen:=endsR_len (L.take j)
    have hl2:(L.take j).length≤L.length:=by rw [List.length_take];omega
    obtain ⟨A3,c3,w3,hr3,hf3,_⟩:=(hf.up hb1).app (M:=[r.lo,r.hi]) (a:=⟨wr.heap.size,0,none⟩) (c:=2) (by
     have:=EAt.many inE wr [r.lo,r.hi] 3
     exact this.up jB.drew) (by rw [List.length_append,hen];simp;omega) 25
    rw [List.append_assoc,←endsR_take hr] at hr3 hf3
    obtain ⟨q3,hq3⟩:∃q3,(more ++ endsR (L.take (j+1))).length=q3:=⟨_,rfl⟩
    rw [hq3] at hr3 hf3
    have HF3:=hJ hf3
    have HQ3:=hJ hq3.symm
    have KS3:Hid (w3.cell? ⟨gl,ol+j*3,none⟩=some (.int .i64 r.lo)∧w3.cell? ⟨gl,ol+j*3+1,none⟩=some (.int .i64 r.hi)):=hJ ⟨(hf3.2.cell (p:=⟨gl,_,none⟩) hgl).trans r0,(hf3.2.cell (p:=⟨gl,_,none⟩) hgl).trans r1⟩
    clear hf hcl hr hb1 hen hl2 hf3 hq3 hb r0 r1
    go_upto_region 6 with (fail)
    go_region_held3 (fun V=>V.cell? ⟨gl,ol+j*3,none⟩=some (.int .i64 r.lo)∧V.cell? ⟨gl,ol+j*3+1,none⟩=some (.int .i64 r.hi)) (first|exact KS3.out|go_keep)
     ((refine step_append_any rfl (.tmp 20) (.tmp 31) 25 25 rfl _ _ rfl rfl hr3 ?_))
    go_wp2
    go_roundw
    case rel=>exact ⟨j+1,A3,c3,q3,by omega,by go_num,rfl,HQ3,HF3.out⟩
    case measure=>simp [intOf];omega
  · obtain rfl:j=L.length:=by omega
    have hii:¬(L.length:Int)<(L.length:Int):=by omega
    obtain ⟨ALL,hALL⟩:∃ALL,more ++ endsR L=ALL:=⟨_,rfl⟩
    have hAl:ALL.length≤30000:=by rw [←hALL,List.length_append,endsR_len];omega
    rw [List.take_length,hALL] at HQ HF
    have HR:Hid (R=ALL.foldl insC []):=hJ (by rw [HR0.out,←hALL];rfl)
    have hq:=HQ.out
    subst hq
    clear hf hb hALL HQ
    go_wp2
    obtain ⟨wo,rfl⟩:∃wo:World,wo=wr:=⟨_,rfl⟩
    go_loopw [5,8,9,10] (fun v i _ _ wr=>∃(j:Nat) (A':Option Addr) (c' q:Nat),j≤ALL.length∧i=.int .i64 (j:Nat)∧v=.slice A' q c'∧FrE inE wo wr (.slice A' q c') ((ALL.take j).foldl insC [])∧Hid (q=((ALL.take j).foldl insC []).length)) (fun _ i _ _ _=>ALL.length-(intOf i).toNat)
    case atStart=>exact ⟨0,none,0,0,Nat.zero_le _,rfl,rfl,FrE.nil inE wo,hJ rfl⟩
    case round=>
     obtain ⟨j,A5,c5,q,hj,rfl,rfl,hf,HQ⟩:=hrel
     have HFO:=hJ hf
     have hb:=hf.2
     by_cases hlt:j<ALL.length
     · obtain ⟨y,hy⟩:∃y,ALL[j]? =some y:=⟨_,jE hlt⟩
       obtain ⟨g6,o6,rfl,hg6,hc6⟩:=HF.out.1.rg.at_ (by omega)
       have y0:wo.cell? ⟨g6,o6+j,none⟩=some (.int .i64 y):=by have:=hc6 j y hy 0 _ rfl;simpa [inE] using this
       have HY:=hJ (And.intro hg6 y0)
       have hjI:(j:Int)<(ALL.length:Int):=by omega
       obtain ⟨O,hO⟩:∃O,(ALL.take j).foldl insC []=O:=⟨_,rfl⟩
       have hOl:O.length≤30000:=by
        rw [←hO]
        have:=foldC_len (ALL.take j) []
        simp at this
        omega
       have HNX:Hid ((ALL.take (j+1)).foldl insC []=insC O y):=hJ (by rw [List.take_add_one,hy,←hO];simp)
       rw [hO] at HFO HQ
       have hq:=HQ.out
       subst hq
       clear hf hb hc6 hy hg6 y0 hO HQ
       go_wp2
       obtain ⟨w5,rfl⟩:∃w5:World,w5=wr:=⟨_,rfl⟩
       go_loopw [9] (fun k9 wi=>∃k nq:Nat,k≤O.length∧k9=.int .i64 (k:Nat)∧Hid (∀i x,i<k→O[i]? =some x→x<y)∧wi=w5.drewN nq) (fun k9 _=>O.length-(intOf k9).toNat)
       case atStart=>exact ⟨0,0,Nat.zero_le _,rfl,hJ (fun i x hi=>by omega),rfl⟩
       case round=>
        obtain ⟨k,nq,hk,rfl,HK,rfl⟩:=hrel
        have lg6:g6<w5.heap.size:=Nat.lt_of_lt_of_le HY.out.1 HFO.out.2.size
        have d0:w5.cell? ⟨g6,o6+j,none⟩=some (.int .i64 y):=(HFO.out.2.cell (p:=⟨g6,_,none⟩) HY.out.1).trans HY.out.2
        rcases HFO.out.1.cases with ⟨rfl,_,rfl,rfl⟩|⟨g5,rfl⟩
        · obtain rfl:k=0:=by simpa using hk
          simp only [List.length_nil,Int.natCast_zero] at HFO ⊢
          go_upto_region 11 with (fail)
          go_quiet (fail)
          go_upto_region 13 with (fail)
          go_quiet (fail)
          go_upto_region 14 with (fail)
          refine wp_forget (fun V=>FrE inE wo V (.slice none 0 0) []) (HFO.out.up ⟨rfl,rfl,rfl,Nat.le_refl _,fun _ _=>rfl⟩) ?_
          rintro V hfv
          have HFV:=hJ hfv
          have lv:=Nat.lt_of_lt_of_le HY.out.1 hfv.2.size
          have e0:V.cell? ⟨g6,o6+j,none⟩=some (.int .i64 y):=(hfv.2.cell (p:=⟨g6,_,none⟩) HY.out.1).trans HY.out.2
          have HT:=hJ hfv.1.rg
          have H1:=hJ (FrE.lit inE V).drew
          have H2:=hJ ((FrE.lit inE V).alloc (.cells #[.int .i64 y] 3)).drew
          have H3:=hJ (FrE.lit2 inE V (.cells #[.int .i64 y] 3)).drew
          have HY2:Hid (EAt inE ((V.alloc (.cells #[] 3)).alloc (.cells #[.int .i64 y] 3)).drew (some ⟨V.heap.size+1,0,none⟩) [y]):=hJ (by
           have:=EAt.one inE (V.alloc (.cells #[] 3)) y 3
           rw [show (V.alloc (.cells #[] 3)).heap.size=V.heap.size+1 by simp] at this
           exact this.drew)
          have HY3:=hJ ((EAt.one inE V y 3).alloc (.cells #[] 3)).drew
          clear d0 lg6 hfv
          go_cut [10] from 71 to 82 (fun s10 W=>∃(A':Option Addr) (c':Nat),s10=.slice A' 1 c'∧FrE inE V W (.slice A' 1 c') [y])
          case first=>
           go_region_law (first
            |(refine step_appFrN inE (by rfl) (.tmp 71) (.tmp 74) (by rfl) (.slice (some ⟨_,0,none⟩) 0 0) [] (by rfl) (by first|exact H1.out|exact H2.out|exact H3.out) (by rfl) ?_)
            |(refine step_appFr inE (by rfl) (.tmp 75) (.tmp 80) (by rfl) (.slice (some ⟨_,0,none⟩) 0 0) [] (by rfl) (by first|exact H2.out|exact H3.out|exact H1.out.alloc _) [y] _ 1 1 (by rfl) rfl (by first|exact HY2.out|exact HY3.out|exact EAt.one inE _ y _) (by simp) 1 rfl ?_;intro A8 c8 w8 h8 _;have H8:=hJ h8;clear h8))
           all_goals
            go_wp2_with fail
            go_meet
            exact ⟨_,_,rfl,H8.out⟩
          case rest=>
           obtain ⟨A9,c9,rfl,hf9⟩:=hcut
           have hr10:=hf9.1.appN 25
           have HF10:=hJ hf9
           have HL10:Hid (1=((ALL.take (j+1)).foldl insC []).length∧(ALL.take (j+1)).foldl insC []=[y]):=hJ (by rw [HNX.out];exact ⟨rfl,rfl⟩)
           clear H1 H2 H3 HY2 HY3 hf9
           go_wp2_with (at_builtin;go_must (refine wpList_append_run rfl (.tmp 82) (.tmp 85) 25 rfl _ _ rfl rfl hr10 ?_))
           go_roundw
           case rel=>exact ⟨j+1,A9,c9,1,hlt,by go_num,rfl,by rw [HL10.out.2];exact ⟨HF10.out.1.mono HFV.out.2.size,HFV.out.2.trans (HF10.out.2.mono HFV.out.2.size)⟩,hJ HL10.out.1⟩
           case measure=>simp [intOf];omega
        · by_cases hkl:k<O.length
          · obtain ⟨x,hx⟩:∃x,O[k]? =some x:=⟨_,jE hkl⟩
            obtain ⟨g5',o5,e5,hg5,hc5⟩:=HFO.out.1.rg.at_ (by omega)
            cases e5
            have x0:w5.cell? ⟨g5,k,none⟩=some (.int .i64 x):=by have:=hc5 k x hx 0 _ rfl;simpa [inE] using this
            have hkI:(k:Int)<(O.length:Int):=by omega
            have hkd:decide (k<O.length)=true:=decide_eq_true hkl
            have HX:=hJ hx
            by_cases hxy:x<y
            · have hK2:=hJ (show ∀i z,i<k+1→O[i]? =some z→z<y from fun i z hi hz=>by
               rcases Nat.lt_or_ge i k with h|h
               · exact HK.out i z h hz
               · obtain rfl:i=k:=by omega
                 rw [HX.out] at hz
                 injection hz with e
                 omega)
              clear hc5 hx
              go_upto_region 11 with (fail)
              go_quiet (fail)
              go_wp2
              go_roundw
              case rel=>exact ⟨k+1,_,hkl,by go_num,hK2,rfl⟩
              case measure=>simp [intOf];omega
            · by_cases hxe:x=y
              · subst hxe
                have hd:(x==x)=true:=beq_self_eq_true x
                have HS:=hJ (insC_same O k x HK.out hx)
                clear hc5 hx
                go_upto_region 11 with (fail)
                go_quiet (fail)
                go_upto_region 13 with (fail)
                go_quiet (fail)
                go_wp2
                go_roundw
                case rel=>exact ⟨j+1,_,c5,O.length,hlt,by go_num,rfl,by rw [HNX.out,HS.out];exact HFO.out.up ⟨rfl,rfl,rfl,Nat.le_refl _,fun _ _=>rfl⟩,hJ (by rw [HNX.out,HS.out])⟩
                case measure=>simp [intOf];omega
              · have hne:(x==y)=false:=beq_eq_false_iff_ne.2 hxe
                have HS:=hJ (insC_put O k y hk HK.out (fun z hz=>by rw [HX.out] at hz;injection hz with e;omega))
                clear hc5 hx
                go_upto_region 11 with (fail)
                go_quiet (fail)
                go_upto_region 13 with (fail)
                go_quiet (fail)
                go_upto_region 14 with (fail)
                refine wp_forget (fun V=>FrE inE wo V (.slice (some ⟨g5,0,none⟩) O.length c5) O) (HFO.out.up ⟨rfl,rfl,rfl,Nat.le_refl _,fun _ _=>rfl⟩) ?_
                rintro V hfv
                have HFV:=hJ hfv
                have lv:=Nat.lt_of_lt_of_le HY.out.1 hfv.2.size
                have e0:V.cell? ⟨g6,o6+j,none⟩=some (.int .i64 y):=(hfv.2.cell (p:=⟨g6,_,none⟩) HY.out.1).trans HY.out.2
                have hkO:O.length≤c5:=by obtain ⟨A',c',e,h⟩:=hfv.1.form;cases e;omega
                have hkc:k≤c5:=by omega
                have HT:=hJ hfv.1.rg
                have H1:=hJ (FrE.lit inE V).drew
                have H2:=hJ ((FrE.lit inE V).alloc (.cells #[.int .i64 y] 3)).drew
                have H3:=hJ (FrE.lit2 inE V (.cells #[.int .i64 y] 3)).drew
                have HY2:Hid (EAt inE ((V.alloc (.cells #[] 3)).alloc (.cells #[.int .i64 y] 3)).drew (some ⟨V.heap.size+1,0,none⟩) [y]):=hJ (by
                 have:=EAt.one inE (V.alloc (.cells #[] 3)) y 3
                 rw [show (V.alloc (.cells #[] 3)).heap.size=V.heap.size+1 by simp] at this
                 exact this.drew)
                have HY3:=hJ ((EAt.one inE V y 3).alloc (.cells #[] 3)).drew
                clear d0 lg6 hfv
                have HLT:Hid ((O.take k).length=k):=hJ (by rw [List.length_take];omega)
                go_cut [10] from 71 to 82 (fun s10 W=>∃(A':Option Addr) (c':Nat),s10=.slice A' (k+1) c'∧FrE inE V W (.slice A' (k+1) c') (O.take k ++ [y]))
                case first=>
                 go_region_law (first
                  |(refine step_appFr inE (by rfl) (.tmp 71) (.tmp 74) (by rfl) (.slice (some ⟨_,0,none⟩) 0 0) [] (by rfl) (by first|exact H1.out|exact H2.out|exact H3.out) (O.take k) ⟨g5,0,none⟩ k c5 (by rfl) HLT.out.symm ((HT.out.take k).up (by first|exact H1.out.2|exact H2.out.2|exact H3.out.2)) (by simp;omega) k HLT.out ?_;intro A7 c7 w7 h7 o7;have y7:=(h7.2.cell (p:=⟨g6,o6+j,none⟩) lv).trans e0;have H7:=hJ h7;have O7:=hJ o7;clear h7 o7)
                  |(refine step_appFr inE (by rfl) (.tmp 75) (.tmp 80) (by rfl) _ (O.take k) (by rfl) (by first|exact H7.out|exact H7.out.alloc _) [y] _ 1 1 (by rfl) rfl (by first|exact EAt.one inE _ y _|exact HY2.out.off O7.out (eO_ne (by omega))|exact HY3.out.off O7.out (eO_ne (by omega))) (by rw [HLT.out];simp;omega) (k+1) (by rw [List.length_append,HLT.out];rfl) ?_;intro A8 c8 w8 h8 _;have H8:=hJ h8;clear h8))
                 all_goals
                  go_wp2_with fail
                  go_meet
                  exact ⟨_,_,rfl,H8.out⟩
                case rest=>
                 obtain ⟨A9,c9,rfl,hf9⟩:=hcut
                 clear H1 H2 H3 HY2 HY3
                 by_cases hck:c5=k
                 · have hdl:O.drop k=[]:=List.drop_eq_nil_of_le (by omega)
                   obtain ⟨A10,c10,w10,hr10,hf10,_⟩:=hf9.app (M:=[]) (a:=⟨g5,0,none⟩) (c:=0) (EAt.nil _ _ _) (by rw [List.length_append,HLT.out];simp;omega) 25
                   have hl10:(O.take k ++ [y] ++ []).length=O.length+1:=by simp;omega
                   rw [hl10] at hr10 hf10
                   rw [show O.take k ++ [y] ++ []=(ALL.take (j+1)).foldl insC [] by rw [HNX.out,HS.out,hdl,List.append_assoc]] at hf10
                   have HF10:=hJ hf10
                   have HL10:Hid (O.length+1=((ALL.take (j+1)).foldl insC []).length):=hJ (by rw [HNX.out,HS.out,←hl10,List.append_assoc,hdl])
                   have hol:O.length-k=0:=by omega
                   have hcl:c5-k=0:=by omega
                   have hkk:k≤O.length:=by omega
                   simp only [List.length_nil] at hr10
                   clear hf9 hf10 hl10 HLT hdl
                   go_wp2_with (at_builtin;go_must (refine wpList_append_run rfl (.tmp 82) (.tmp 85) 25 rfl _ _ rfl (by first|rfl|(go_simp;done)|(simp [*];done)) hr10 ?_))
                   go_roundw
                   case rel=>exact ⟨j+1,A10,c10,O.length+1,hlt,by go_num,rfl,⟨HF10.out.1.mono HFV.out.2.size,HFV.out.2.trans (HF10.out.2.mono HFV.out.2.size)⟩,HL10⟩
                   case measure=>simp [intOf];omega
                 · have hdr:EAt inE V (some ⟨g5,k,none⟩) (O.drop k):=by have:=HT.out.drop (n:=k);rw [show inE.k=1 from rfl,Nat.mul_one,Nat.zero_add] at this;exact this
                   obtain ⟨A10,c10,w10,hr10,hf10,_⟩:=hf9.app (M:=O.drop k) (a:=⟨g5,k,none⟩) (c:=c5-k) (hdr.up hf9.2) (by rw [List.length_append,HLT.out];simp;omega) 25
                   have hl10:(O.take k ++ [y] ++ O.drop k).length=O.length+1:=by simp;omega
                   rw [hl10] at hr10 hf10
                   rw [List.append_assoc,←HS.out,←HNX.out] at hf10
                   rw [List.length_drop] at hr10
                   have HF10:=hJ hf10
                   have HL10:Hid (O.length+1=((ALL.take (j+1)).foldl insC []).length):=hJ (by rw [HNX.out,HS.out,←hl10,List.append_assoc])
                   have hkk:k≤O.length:=by omega
                   clear hf9 hdr hf10 hl10 HLT
                   go_wp2_with (at_builtin;go_must (refine wpList_append_run rfl (.tmp 82) (.tmp 85) 25 rfl _ _ rfl rfl hr10 ?_))
                   go_roundw
                   case rel=>exact ⟨j+1,A10,c10,O.length+1,hlt,by go_num,rfl,⟨HF10.out.1.mono HFV.out.2.size,HFV.out.2.trans (HF10.out.2.mono HFV.out.2.size)⟩,HL10⟩
                   case measure=>simp [intOf];omega
          · have hkI:¬(k:Int)<(O.length:Int):=by omega
            have hkd:decide (k<O.length)=false:=decide_eq_false hkl
            have HS:=hJ (insC_put O k y hk HK.out (fun z hz=>by rw [List.getElem?_eq_none (by omega)] at hz;cases hz))
            go_upto_region 11 with (fail)
            go_quiet (fail)
            go_upto_region 13 with (fail)
            go_quiet (fail)
            go_upto_region 14 with (fail)
            refine wp_forget (fun V=>FrE inE wo V (.slice (some ⟨g5,0,none⟩) O.length c5) O) (HFO.out.up ⟨rfl,rfl,rfl,Nat.le_refl _,fun _ _=>rfl⟩) ?_
            rintro V hfv
            have HFV:=hJ hfv
            have lv:=Nat.lt_of_lt_of_le HY.out.1 hfv.2.size
            have e0:V.cell? ⟨g6,o6+j,none⟩=some (.int .i64 y):=(hfv.2.cell (p:=⟨g6,_,none⟩) HY.out.1).trans HY.out.2
            have hkO:O.length≤c5:=by obtain ⟨A',c',e,h⟩:=hfv.1.form;cases e;omega
            have hkc:k≤c5:=by omega
            have HT:=hJ hfv.1.rg
            have H1:=hJ (FrE.lit inE V).drew
            have H2:=hJ ((FrE.lit inE V).alloc (.cells #[.int .i64 y] 3)).drew
            have H3:=hJ (FrE.lit2 inE V (.cells #[.int .i64 y] 3)).drew
            have HY2:Hid (EAt inE ((V.alloc (.cells #[] 3)).alloc (.cells #[.int .i64 y] 3)).drew (some ⟨V.heap.size+1,0,none⟩) [y]):=hJ (by
             have:=EAt.one inE (V.alloc (.cells #[] 3)) y 3
             rw [show (V.alloc (.cells #[] 3)).heap.size=V.heap.size+1 by simp] at this
             exact this.drew)
            have HY3:=hJ ((EAt.one inE V y 3).alloc (.cells #[] 3)).drew
            clear d0 lg6 hfv
            have HLT:Hid ((O.take k).length=k):=hJ (by rw [List.length_take];omega)
            go_cut [10] from 71 to 82 (fun s10 W=>∃(A':Option Addr) (c':Nat),s10=.slice A' (k+1) c'∧FrE inE V W (.slice A' (k+1) c') (O.take k ++ [y]))
            case first=>
             go_region_law (first
              |(refine step_appFr inE (by rfl) (.tmp 71) (.tmp 74) (by rfl) (.slice (some ⟨_,0,none⟩) 0 0) [] (by rfl) (by first|exact H1.out|exact H2.out|exact H3.out) (O.take k) ⟨g5,0,none⟩ k c5 (by rfl) HLT.out.symm ((HT.out.take k).up (by first|exact H1.out.2|exact H2.out.2|exact H3.out.2)) (by simp;omega) k HLT.out ?_;intro A7 c7 w7 h7 o7;have y7:=(h7.2.cell (p:=⟨g6,o6+j,none⟩) lv).trans e0;have H7:=hJ h7;have O7:=hJ o7;clear h7 o7)
              |(refine step_appFr inE (by rfl) (.tmp 75) (.tmp 80) (by rfl) _ (O.take k) (by rfl) (by first|exact H7.out|exact H7.out.alloc _) [y] _ 1 1 (by rfl) rfl (by first|exact EAt.one inE _ y _|exact HY2.out.off O7.out (eO_ne (by omega))|exact HY3.out.off O7.out (eO_ne (by omega))) (by rw [HLT.out];simp;omega) (k+1) (by rw [List.length_append,HLT.out];rfl) ?_;intro A8 c8 w8 h8 _;have H8:=hJ h8;clear h8))
             all_goals
              go_wp2_with fail
              go_meet
              exact ⟨_,_,rfl,H8.out⟩
            case rest=>
             obtain ⟨A9,c9,rfl,hf9⟩:=hcut
             clear H1 H2 H3 HY2 HY3
             by_cases hck:c5=k
             · have hdl:O.drop k=[]:=List.drop_eq_nil_of_le (by omega)
               obtain ⟨A10,c10,w10,hr10,hf10,_⟩:=hf9.app (M:=[]) (a:=⟨g5,0,none⟩) (c:=0) (EAt.nil _ _ _) (by rw [List.length_append,HLT.out];simp;omega) 25
               have hl10:(O.take k ++ [y] ++ []).length=O.length+1:=by simp;omega
               rw [hl10] at hr10 hf10
               rw [show O.take k ++ [y] ++ []=(ALL.take (j+1)).foldl insC [] by rw [HNX.out,HS.out,hdl,List.append_assoc]] at hf10
               have HF10:=hJ hf10
               have HL10:Hid (O.length+1=((ALL.take (j+1)).foldl insC []).length):=hJ (by rw [HNX.out,HS.out,←hl10,List.append_assoc,hdl])
               have hol:O.length-k=0:=by omega
               have hcl:c5-k=0:=by omega
               have hkk:k≤O.length:=by omega
               simp only [List.length_nil] at hr10
               clear hf9 hf10 hl10 HLT hdl
               go_wp2_with (at_builtin;go_must (refine wpList_append_run rfl (.tmp 82) (.tmp 85) 25 rfl _ _ rfl (by first|rfl|(go_simp;done)|(simp [*];done)) hr10 ?_))
               go_roundw
               case rel=>exact ⟨j+1,A10,c10,O.length+1,hlt,by go_num,rfl,⟨HF10.out.1.mono HFV.out.2.size,HFV.out.2.trans (HF10.out.2.mono HFV.out.2.size)⟩,HL10⟩
               case measure=>simp [intOf];omega
             · have hdr:EAt inE V (some ⟨g5,k,none⟩) (O.drop k):=by have:=HT.out.drop (n:=k);rw [show inE.k=1 from rfl,Nat.mul_one,Nat.zero_add] at this;exact this
               obtain ⟨A10,c10,w10,hr10,hf10,_⟩:=hf9.app (M:=O.drop k) (a:=⟨g5,k,none⟩) (c:=c5-k) (hdr.up hf9.2) (by rw [List.length_append,HLT.out];simp;omega) 25
               have hl10:(O.take k ++ [y] ++ O.drop k).length=O.length+1:=by simp;omega
               rw [hl10] at hr10 hf10
               rw [List.append_assoc,←HS.out,←HNX.out] at hf10
               rw [List.length_drop] at hr10
               have HF10:=hJ hf10
               have HL10:Hid (O.length+1=((ALL.take (j+1)).foldl insC []).length):=hJ (by rw [HNX.out,HS.out,←hl10,List.append_assoc])
               have hkk:k≤O.length:=by omega
               clear hf9 hdr hf10 hl10 HLT
               go_wp2_with (at_builtin;go_must (refine wpList_append_run rfl (.tmp 82) (.tmp 85) 25 rfl _ _ rfl rfl hr10 ?_))
               go_roundw
               case rel=>exact ⟨j+1,A10,c10,O.length+1,hlt,by go_num,rfl,⟨HF10.out.1.mono HFV.out.2.size,HFV.out.2.trans (HF10.out.2.mono HFV.out.2.size)⟩,HL10⟩
               case measure=>simp [intOf];omega
     · obtain rfl:j=ALL.length:=by omega
       have hii:¬(ALL.length:Int)<(ALL.length:Int):=by omega
       rw [List.take_length,←HR.out] at HFO HQ
       have hq:=HQ.out
       subst hq
       clear hf hb
       go_wp2
       go_ret
       exact ⟨A5,c5,rfl,HFO.out.1.mono HF.out.2.size,HF.out.2.trans (HFO.out.2.mono HF.out.2.size)⟩
end Go.Proofs.YtlhfjaagkgengaaGreat
