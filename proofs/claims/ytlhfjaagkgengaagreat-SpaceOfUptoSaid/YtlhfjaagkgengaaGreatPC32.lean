/- almanacref15: prot, made. almanacref15: with, All, Map, Unmap, Protect. almanacref15: All, Map, Unmap, Protect. -/
import Derived.Test.YtlhfjaagkgengaaGreatPC31
namespace Go.Proofs.YtlhfjaagkgengaaGreat
set_option maxRecDepth 100000
set_option maxHeartbeats 8000000
open Go.RowKit Go.Maps
set_option linter.unusedVariables false
set_option linter.unusedSimpArgs false
theorem protI_at:∀(L:List Rg) (j:Nat) (x:Int) {r:Rg},(∀i s,i<j→L[i]? =some s→¬(s.lo≤x∧x<s.hi))→L[j]? =some r→r.lo≤x∧x<r.hi→protI L x=r.pr
 |[],j,x,r,_,h,_=>by simp at h
 | s::L,0,x,r,_,h,hr=>by
   simp at h
   subst h
   unfold protI atR
   rw [if_pos hr];rfl
 | s::L,j+1,x,r,hn,h,hr=>by
   have:=protI_at L j x (fun i t hi ht=>hn (i+1) t (by omega) ht) h hr
   unfold protI at this ⊢
   unfold atR
   rw [if_neg (hn 0 s (by omega) rfl)]
   exact this
theorem protI_no:∀(L:List Rg) (x:Int),(∀(i:Nat) (s:Rg),L[i]? =some s→¬(s.lo≤x∧x<s.hi))→protI L x= -1
 |[],x,_=>rfl
 | s::L,x,hn=>by
   have:=protI_no L x fun i t ht=>hn (i+1) t ht
   unfold protI at this ⊢
   unfold atR
   rw [if_neg (hn 0 s rfl)]
   exact this
theorem rprot_any (w:World) {A:Option Addr} {L:List Rg} (c:Nat) (x:Int) (hL:RgAt w A L) (hn:L.length≤10000):
 Calls Tryz.prog 189 #[.slice A L.length c,.int .i64 x] w fun e w'=>e=.returned (.int .i64 (protI L x))∧w'=w:=by
 have HL:=hJ hL
 obtain ⟨R,hR⟩:∃R,protI L x=R:=⟨_,rfl⟩
 have HR:=hJ hR
 rw [hR]
 clear hL hR
 go_enter Tryz.func189,Tryz.ntmps189
 go_wp2
 go_loop [5] (fun i=>∃j:Nat,j≤L.length∧i=.int .i64 (j:Nat)∧Hid (∀i s,i<j→L[i]? =some s→¬(s.lo≤x∧x<s.hi))) (fun i=>L.length-(intOf i).toNat)
 case atStart=>exact ⟨0,Nat.zero_le _,rfl,hJ fun i s hi=>by omega⟩
 case round=>
  obtain ⟨j,hj,rfl,HN⟩:=hrel
  by_cases hlt:j<L.length
  · obtain ⟨r,hr⟩:∃r,L[j]? =some r:=⟨_,jE hlt⟩
    obtain ⟨g,o,rfl,hg,hc⟩:=HL.out.at_ (by omega)
    obtain ⟨c0,c1,c2⟩:=hc j r hr
    have hjI:(j:Int)<(L.length:Int):=by omega
    have HRR:=hJ hr
    obtain ⟨ra,rb,rp⟩:=r
    simp only at c0 c1 c2
    clear hr hc
    by_cases h1:ra≤x
    · by_cases h2:x<rb
      · have HF:=hJ (protI_at L j x HN.out HRR.out ⟨h1,h2⟩)
        go_wp2
        go_ret
        exact ⟨ret_int (by rw [←HR.out,HF.out]),rfl⟩
      · have hN2:=hJ (show ∀i s,i<j+1→L[i]? =some s→¬(s.lo≤x∧x<s.hi) from fun i s hi hs=>by
         rcases Nat.lt_or_ge i j with h|h
         · exact HN.out i s h hs
         · obtain rfl:i=j:=by omega
           rw [HRR.out] at hs
           cases hs
           exact fun e=>h2 e.2)
        go_wp2
        go_round
        case rel=>exact ⟨j+1,hlt,by go_num,hN2⟩
        case measure=>simp [intOf];omega
    · have hN2:=hJ (show ∀i s,i<j+1→L[i]? =some s→¬(s.lo≤x∧x<s.hi) from fun i s hi hs=>by
       rcases Nat.lt_or_ge i j with h|h
       · exact HN.out i s h hs
       · obtain rfl:i=j:=by omega
         rw [HRR.out] at hs
         cases hs
         exact fun e=>h1 e.1)
      go_wp2
      go_round
      case rel=>exact ⟨j+1,hlt,by go_num,hN2⟩
      case measure=>simp [intOf];omega
  · have hjI:¬(j:Int)<(L.length:Int):=by omega
    have HF:=hJ (protI_no L x fun i s hs=>HN.out i s (by have:=(jS.1 hs).1;omega) hs)
    go_wp2
    go_ret
    exact ⟨ret_int (by rw [←HR.out,HF.out]),rfl⟩
theorem segsR_snoc (f:Int→Int) (a b:Int):∀(l:List Int),segsR f (l ++ [a,b])=segsR f (l ++ [a]) ++ (if f a= -1 then [] else [⟨a,b,f a⟩])
 |[]=>by simp only [List.nil_append,segsR]
 | [x]=>by
   simp only [List.cons_append,List.nil_append,segsR]
   split<;>split<;>rfl
 | x::y::l=>by
   have:=segsR_snoc f a b (y::l)
   simp only [List.cons_append] at this ⊢
   conv=>lhs;unfold segsR
   conv=>rhs;unfold segsR
   split
   · exact this
   · rw [this];rfl
theorem segsR_take (f:Int→Int) {l:List Int} {j:Nat} {a b:Int} (ha:l[j]? =some a) (hb:l[j+1]? =some b):segsR f (l.take (j+2))=segsR f (l.take (j+1)) ++ (if f a= -1 then [] else [⟨a,b,f a⟩]):=by
 rw [List.take_add_one (i:=j+1),List.take_add_one (i:=j),ha,hb]
 simp only [Option.toList,List.append_assoc,List.cons_append,List.nil_append]
 exact segsR_snoc f a b _
theorem segsR_len (f:Int→Int):∀(l:List Int),(segsR f l).length≤l.length
 |[]=>by simp [segsR]
 |[_]=>by simp [segsR]
 | a::b::l=>by
   have:=segsR_len f (b::l)
   unfold segsR
   split
   · simp only [List.length_cons] at this ⊢;omega
   · simp only [List.length_cons] at this ⊢;omega
theorem joinF_snoc (L:List Rg) (r:Rg):joinF (L ++ [r])=jn (joinF L) r:=by unfold joinF;simp
theorem made_any (w:World) {A B:Option Addr} {l ps:List Int} (cA cB:Nat) (f:Int→Int) (hA:EAt inE w A l) (hB:EAt inE w B ps) (h1:1≤l.length) (hn:l.length≤40000) (hps:ps.length+1=l.length) (hf:∀i a,i<ps.length→l[i]? =some a→ps[i]? =some (f a)):
 Calls Tryz.prog 197 #[.slice A l.length cA,.slice B ps.length cB] w fun e w'=>∃A' c',e=.returned (.slice A' (joinF (segsR f l)).length c')∧FrG w w' (.slice A' (joinF (segsR f l)).length c') (joinF (segsR f l)):=by
 have HA:=hJ hA
 have HB:=hJ hB
 have HF:=hJ hf
 obtain ⟨R,hR⟩:∃R,joinF (segsR f l)=R:=⟨_,rfl⟩
 have HR:=hJ hR
 rw [hR]
 clear hA hB hf hR
 obtain ⟨m,hm⟩:∃m,ps.length=m:=⟨_,rfl⟩
 have HM:=hJ hm
 have hlm:l.length=m+1:=by omega
 rw [hlm] at hn ⊢
 rw [hm]
 have HLM:=hJ hlm
 clear hm hlm hps h1
 go_enter Tryz.func197,Tryz.ntmps197
 go_wp2
 go_loopw [5,6,7] (fun v i _ wr=>∃(j:Nat) (A':Option Addr) (c' q:Nat),j≤m∧i=.int .i64 (j:Nat)∧v=.slice A' q c'∧Hid (q=(joinF (segsR f (l.take (j+1)))).length)∧FrG w wr (.slice A' q c') (joinF (segsR f (l.take (j+1))))) (fun _ i _ _=>m-(intOf i).toNat)
 case atStart=>
  have h0:segsR f (l.take (0+1))=[]:=by
   match l with
   |[]=>rfl
   |[_]=>rfl
   |_::_::_=>rfl
  exact ⟨0,none,0,0,Nat.zero_le _,rfl,rfl,hJ (by rw [h0];rfl),by rw [h0];exact FrG.nil w⟩
 case round=>
  obtain ⟨j,A1,c1,q,hj,rfl,rfl,HQ,hfr⟩:=hrel
  have HFR:=hJ hfr
  have hb:=hfr.2
  by_cases hlt:j<m
  · obtain ⟨a,ha⟩:∃a,l[j]? =some a:=⟨_,jE (by have:=HLM.out;omega)⟩
    obtain ⟨b,hbb⟩:∃b,l[j+1]? =some b:=⟨_,jE (by have:=HLM.out;omega)⟩
    have hp:=HF.out j a (by have:=HM.out;omega) ha
    obtain ⟨ga,oa,rfl,hga,hca⟩:=HA.out.at_ (by have:=HLM.out;omega)
    obtain ⟨gb,ob,rfl,hgb,hcb⟩:=HB.out.at_ (by have:=HM.out;omega)
    have a0:w.cell? ⟨ga,oa+j,none⟩=some (.int .i64 a):=by have:=hca j a ha 0 _ rfl;simpa [inE] using this
    have b0:w.cell? ⟨ga,oa+(j+1),none⟩=some (.int .i64 b):=by have:=hca (j+1) b hbb 0 _ rfl;simpa [inE] using this
    have p0:w.cell? ⟨gb,ob+j,none⟩=some (.int .i64 (f a)):=by have:=hcb j _ hp 0 _ rfl;simpa [inE] using this
    have HST:=hJ (segsR_take f ha hbb)
    have HC0:=hJ (And.intro (And.intro hga hgb) (And.intro a0 (And.intro b0 p0)))
    obtain ⟨p,hpp⟩:∃p,f a=p:=⟨_,rfl⟩
    rw [hpp] at HST HC0
    obtain ⟨M,hM⟩:∃M,joinF (segsR f (l.take (j+1)))=M:=⟨_,rfl⟩
    have hMl:M.length≤40001:=by
     rw [←hM]
     have:=join_len (segsR f (l.take (j+1)))
     have:=segsR_len f (l.take (j+1))
     simp at this
     omega
    have HNX:Hid (joinF (segsR f (l.take (j+1+1)))=if p= -1 then M else jn M ⟨a,b,p⟩):=hJ (by
     rw [HST.out]
     split
     · rw [List.append_nil,hM]
     · rw [joinF_snoc,hM])
    rw [hM] at HQ HFR
    have hq:=HQ.out
    subst hq
    have e0:=(hb.cell (p:=⟨ga,_,none⟩) HC0.out.1.1).trans HC0.out.2.1
    have e1:=(hb.cell (p:=⟨ga,_,none⟩) HC0.out.1.1).trans HC0.out.2.2.1
    have e2:=(hb.cell (p:=⟨gb,_,none⟩) HC0.out.1.2).trans HC0.out.2.2.2
    have la:ga<wr.heap.size:=Nat.lt_of_lt_of_le HC0.out.1.1 hb.size
    have lb:gb<wr.heap.size:=Nat.lt_of_lt_of_le HC0.out.1.2 hb.size
    have hjI:(j:Int)<(m:Int):=by omega
    clear hfr hb ha hbb hp hca hcb a0 b0 p0 HST hpp hM HQ hga hgb
    by_cases hpn:p= -1
    · have hd:(p== -1)=true:=by rw [hpn];rfl
      have HNY:=hJ (HNX.out.trans (if_pos hpn))
      clear hpn
      go_wp2
      go_roundw
      case rel=>exact ⟨j+1,A1,c1,M.length,hlt,by go_num,rfl,hJ (by rw [HNY.out]),by rw [HNY.out];exact HFR.out⟩
      case measure=>simp [intOf];omega
    · have hd :(p== -1)=false:=beq_eq_false_iff_ne.2 hpn
      have HNY:=hJ (HNX.out.trans (if_neg hpn))
      clear hpn HNX
      have pushed:Hid (jn M ⟨a,b,p⟩=M ++ [⟨a,b,p⟩]→∀V2,Below wr.heap.size wr V2→∃A' c' w',(Builtin.append_ #[41,41] 41 #[.slice A1 M.length c1,.slice (some ⟨V2.heap.size,0,none⟩) 1 1]).run Tryz.prog ((V2.alloc (.cells #[.int .i64 a,.int .i64 b,.int .i64 p] 62)).drew)=.ok (.slice A' (M.length+1) c') w'∧FrG w w' (.slice A' (M.length+1) c') (joinF (segsR f (l.take (j+1+1))))):=hJ fun e V2 hV=>by
       have hd1:Below wr.heap.size wr V2.drew:=hV.drew
       obtain ⟨A2,c2,w2,hr2,hf2,_⟩:=FrG.push (FrG.up HFR.out hd1) ⟨a,b,p⟩ 62 (by omega) 41
       rw [HNY.out,e]
       exact ⟨A2,c2,w2,hr2,hf2⟩
      have KS3:Hid (∀w3,Below w.heap.size w w3→w3.cell? ⟨ga,oa+j,none⟩=some (.int .i64 a)∧w3.cell? ⟨ga,oa+(j+1),none⟩=some (.int .i64 b)∧w3.cell? ⟨gb,ob+j,none⟩=some (.int .i64 p)):=hJ fun w3 hb3=>⟨(hb3.cell (p:=⟨ga,_,none⟩) HC0.out.1.1).trans HC0.out.2.1,(hb3.cell (p:=⟨ga,_,none⟩) HC0.out.1.1).trans HC0.out.2.2.1,(hb3.cell (p:=⟨gb,_,none⟩) HC0.out.1.2).trans HC0.out.2.2.2⟩
      rcases M.eq_nil_or_concat with rfl|⟨M0,y,hM0⟩
      · have HPU:=hJ (pushed.out (jn_nil _))
        clear pushed
        simp only [List.length_nil] at HPU ⊢
        have hd0:decide ((0:Int)<((0:Nat):Int))=false:=by simp
        go_upto_region 7 with (fail)
        go_quiet (fail)
        obtain ⟨A2,c2,w2,hr2,hf2⟩:=HPU.out (wr.drewN nq) ⟨rfl,rfl,rfl,Nat.le_refl _,fun _ _=>rfl⟩
        have HF2:=hJ hf2
        have KS:=hJ (KS3.out w2 hf2.2)
        clear hf2
        go_upto_region 9 with (fail)
        have k1:(0:Int)≤(j:Int):=Int.natCast_nonneg j
        have k2:(j:Int)<((m+1:Nat):Int):=by omega
        have k7:j<m+1:=by omega
        have k8:(j:Int)<(m:Int)+1:=by omega
        have k9:j≤m:=by omega
        have k3:(0:Int)≤(j:Int)+1:=by omega
        have k4:(j:Int)+1<((m+1:Nat):Int):=by omega
        have k6:((j:Int)+1).toNat=j+1:=by omega
        have k5:IntKind.i64.wrap ((j:Int)+1)=(j:Int)+1:=IntWalk.i64_in _ (by omega)
        go_region_held3 (fun V=>V.cell? ⟨ga,oa+j,none⟩=some (.int .i64 a)∧V.cell? ⟨ga,oa+(j+1),none⟩=some (.int .i64 b)∧V.cell? ⟨gb,ob+j,none⟩=some (.int .i64 p)) (first|exact KS.out|go_keep)
         ((refine step_append_any rfl (.tmp 60) (.tmp 75) 41 41 rfl _ _ rfl rfl hr2 ?_))
        clear k1 k2 k3 k4 k5 k6 k7 k8 k9
        go_wp2
        go_roundw
        case rel=>exact ⟨j+1,A2,c2,1,hlt,by go_num,rfl,hJ (by rw [HNY.out,jn_nil];simp),HF2.out⟩
        case measure=>simp [intOf];omega
      · rw [List.concat_eq_append] at hM0
        subst hM0
        rw [List.length_append,List.length_singleton] at hMl HFR pushed ⊢
        obtain ⟨ya,yb,yp⟩:=y
        have hA1:=HFR.out.1.rg
        obtain ⟨g1,o1,rfl,hg1,hc1⟩:=hA1.at_ (by simp)
        obtain ⟨z0,z1,z2⟩:=hc1 M0.length ⟨ya,yb,yp⟩ (by simp)
        obtain rfl:o1=0:=by
         have hl:=HFR.out.1.form
         obtain ⟨G,cap,hG,_⟩:=World.ownsRow.form HFR.out.1 (by simp)
         injection hG with e
         injection e with e
         injection e
        simp only [Nat.zero_add] at z0 z1 z2
        have hm0:(0:Int)<((M0.length+1:Nat):Int):=by omega
        have hi0:IntKind.i64.wrap (((M0.length+1:Nat):Int)-1)=(M0.length:Int):=by rw [IntWalk.i64_in _ (by omega)];omega
        have hb0:(M0.length:Int)<((M0.length+1:Nat):Int):=by omega
        clear hA1 hc1 z0
        by_cases h1:yb=a
        · by_cases h2:yp=p
          · have d1:(yb==a)=true:=by rw [h1];exact beq_self_eq_true a
            have d2:(yp==p)=true:=by rw [h2];exact beq_self_eq_true p
            have HJ:=hJ (jn_yes M0 ⟨ya,yb,yp⟩ ⟨a,b,p⟩ ⟨h1,h2⟩)
            have HOW2:=hJ (HFR.out.1.setHi b)
            have hfz:=OwG.frozenAt HFR.out.1 (M0.length*3+1)
            clear h1 h2 pushed KS3
            go_upto_region 7 with (fail)
            go_quiet (fail)
            go_wp2
            go_roundw
            case rel=>
             refine ⟨j+1,some ⟨g1,0,none⟩,c1,M0.length+1,hlt,by go_num,rfl,hJ (by rw [HNY.out,HJ.out];simp),?_⟩
             rw [HNY.out,HJ.out]
             have hf:=HFR.out
             have h2:=HOW2.out
             have ho:Off (fun _=>False) (wr.setCell ⟨g1,M0.length*3+1,none⟩ (.int .i64 b)) ((wr.drewN nq).setCell ⟨g1,M0.length*3+1,none⟩ (.int .i64 b)):=⟨rfl,rfl,rfl,Nat.le_refl _,fun _ _ _=>rfl⟩
             refine ⟨h2.1.off ho (fun _ _=>id),?_⟩
             exact hf.2.trans ((h2.2.trans (ho.mono fun _=>False.elim)).below (fun k e=>by rw [e];exact (hf.1.lt (k:=g1) rfl).1) hf.2.size)
            case measure=>simp [intOf];omega
          · have d1:(yb==a)=true:=by rw [h1];exact beq_self_eq_true a
            have d2:(yp==p)=false:=beq_eq_false_iff_ne.2 h2
            have HJN:=hJ (jn_no M0 ⟨ya,yb,yp⟩ ⟨a,b,p⟩ (fun e=>h2 e.2))
            have HPU:=hJ (pushed.out HJN.out)
            clear pushed h1 h2
            go_upto_region 7 with (fail)
            go_quiet (fail)
            obtain ⟨A2,c2,w2,hr2,hf2⟩:=HPU.out (wr.drewN nq) ⟨rfl,rfl,rfl,Nat.le_refl _,fun _ _=>rfl⟩
            have HF2:=hJ hf2
            have KS:=hJ (KS3.out w2 hf2.2)
            clear hf2
            go_upto_region 9 with (fail)
            have k1:(0:Int)≤(j:Int):=Int.natCast_nonneg j
            have k2:(j:Int)<((m+1:Nat):Int):=by omega
            have k7:j<m+1:=by omega
            have k8:(j:Int)<(m:Int)+1:=by omega
            have k9:j≤m:=by omega
            have k3:(0:Int)≤(j:Int)+1:=by omega
            have k4:(j:Int)+1<((m+1:Nat):Int):=by omega
            have k6:((j:Int)+1).toNat=j+1:=by omega
            have k5:IntKind.i64.wrap ((j:Int)+1)=(j:Int)+1:=IntWalk.i64_in _ (by omega)
            go_region_held3 (fun V=>V.cell? ⟨ga,oa+j,none⟩=some (.int .i64 a)∧V.cell? ⟨ga,oa+(j+1),none⟩=some (.int .i64 b)∧V.cell? ⟨gb,ob+j,none⟩=some (.int .i64 p)) (first|exact KS.out|go_keep)
             ((refine step_append_any rfl (.tmp 60) (.tmp 75) 41 41 rfl _ _ rfl rfl hr2 ?_))
            clear k1 k2 k3 k4 k5 k6 k7 k8 k9
            go_wp2
            go_roundw
            case rel=>exact ⟨j+1,A2,c2,M0.length+1+1,hlt,by go_num,rfl,hJ (by rw [HNY.out,HJN.out];simp),HF2.out⟩
            case measure=>simp [intOf];omega
        · have d1:(yb==a)=false:=beq_eq_false_iff_ne.2 h1
          have HJN:=hJ (jn_no M0 ⟨ya,yb,yp⟩ ⟨a,b,p⟩ (fun e=>h1 e.1))
          have HPU:=hJ (pushed.out HJN.out)
          clear pushed h1
          go_upto_region 7 with (fail)
          go_quiet (fail)
          obtain ⟨A2,c2,w2,hr2,hf2⟩:=HPU.out (wr.drewN nq) ⟨rfl,rfl,rfl,Nat.le_refl _,fun _ _=>rfl⟩
          have HF2:=hJ hf2
          have KS:=hJ (KS3.out w2 hf2.2)
          clear hf2
          go_upto_region 9 with (fail)
          have k1:(0:Int)≤(j:Int):=Int.natCast_nonneg j
          have k2:(j:Int)<((m+1:Nat):Int):=by omega
          have k7:j<m+1:=by omega
          have k8:(j:Int)<(m:Int)+1:=by omega
          have k9:j≤m:=by omega
          have k3:(0:Int)≤(j:Int)+1:=by omega
          have k4:(j:Int)+1<((m+1:Nat):Int):=by omega
          have k6:((j:Int)+1).toNat=j+1:=by omega
          have k5:IntKind.i64.wrap ((j:Int)+1)=(j:Int)+1:=IntWalk.i64_in _ (by omega)
          go_region_held3 (fun V=>V.cell? ⟨ga,oa+j,none⟩=some (.int .i64 a)∧V.cell? ⟨ga,oa+(j+1),none⟩=some (.int .i64 b)∧V.cell? ⟨gb,ob+j,none⟩=some (.int .i64 p)) (first|exact KS.out|go_keep)
           ((refine step_append_any rfl (.tmp 60) (.tmp 75) 41 41 rfl _ _ rfl rfl hr2 ?_))
          clear k1 k2 k3 k4 k5 k6 k7 k8 k9
          go_wp2
          go_roundw
          case rel=>exact ⟨j+1,A2,c2,M0.length+1+1,hlt,by go_num,rfl,hJ (by rw [HNY.out,HJN.out];simp),HF2.out⟩
          case measure=>simp [intOf];omega
  · obtain rfl:j=m:=by omega
    have hii:¬(j:Int)+1<((j+1:Nat):Int):=by omega
    have hw:Hid (l.take (j+1)=l):=hJ (List.take_of_length_le (by have:=HLM.out;omega))
    rw [hw.out,HR.out] at HQ HFR
    have hq:=HQ.out
    subst hq
    clear hfr hb
    go_wp2
    go_ret
    exact ⟨A1,c1,rfl,HFR.out⟩
set_option maxRecDepth 100000
set_option maxHeartbeats 8000000
theorem cutsF_len (L:List Rg) (more:List Int):(cutsF L more).length≤more.length+2*L.length:=by
 unfold cutsF
 have:=foldC_len (more ++ endsR L) []
 rw [List.length_append,endsR_len] at this
 simpa using this
theorem cutsF_pos (L:List Rg) (lo hi:Int):1≤(cutsF L [lo,hi]).length:=by
 have h:=((cutsF_spec L [lo,hi]).2 lo).2 (.inl (by simp))
 exact List.length_pos_of_mem h
theorem rwith_any (w:World) {A:Option Addr} {L:List Rg} (c:Nat) (lo hi how:Int) (hL:RgAt w A L) (hn:L.length≤5000):
 Calls Tryz.prog 182 #[.slice A L.length c,.int .i64 lo,.int .i64 hi,.int .i64 how] w fun e w'=>∃A' c',e=.returned (.slice A' (withF L lo hi how).length c')∧FrG w w' (.slice A' (withF L lo hi how).length c') (withF L lo hi how):=by
 have HL:=hJ hL
 have HCU:=hJ (fun (V:World) (h:RgAt V A L) (g:Nat) (hM:EAt inE V (some ⟨g,0,none⟩) [lo,hi])=>cuts_any V (more:=[lo,hi]) c 2 h hM (by omega) (by simp))
 obtain ⟨C,hC⟩:∃C,cutsF L [lo,hi]=C:=⟨_,rfl⟩
 have hcl:=cutsF_len L [lo,hi]
 have hcp:=cutsF_pos L lo hi
 rw [hC] at hcl hcp
 obtain ⟨f,hf⟩:∃f,wayF L lo hi how=f:=⟨_,rfl⟩
 have HFF:Hid (∀a,f a=if lo≤a∧a<hi then how else protI L a):=hJ fun a=>by rw [←hf];rfl
 obtain ⟨R,hR⟩:∃R,withF L lo hi how=R:=⟨_,rfl⟩
 have HR:Hid (joinF (segsR f C)=R):=hJ (by rw [←hR,←hf,←hC];rfl)
 rw [hR]
 rw [hC] at HCU
 have hcl2:C.length≤10002:=by simp at hcl;omega
 clear hL hC hf hR hcl
 have HWA:=hJ (show Below w.heap.size w (w.alloc (.cells #[.int .i64 lo,.int .i64 hi] 3)) from jB.alloc jN _)
 have HMO:Hid (EAt inE (w.alloc (.cells #[.int .i64 lo,.int .i64 hi] 3)) (some ⟨w.heap.size,0,none⟩) [lo,hi]):=hJ (EAt.many inE w [lo,hi] 3)
 go_enter Tryz.func182,Tryz.ntmps182
 go_wp2_with fail
 generalize w.alloc (.cells #[.int .i64 lo,.int .i64 hi] 3)=wa at *
 refine (HCU.out wa (HL.out.up HWA.out) _ HMO.out).mono ?_
 rintro e w1 ⟨Ac,cc,rfl,hfc⟩
 have HFC:=hJ hfc
 have HB1:=hJ (HWA.out.trans (hfc.2.mono HWA.out.size))
 obtain ⟨n,hn2⟩:∃n,C.length=n+1:=⟨C.length-1,by omega⟩
 have HN:=hJ hn2
 rw [hn2] at hcl2 ⊢
 clear hfc HCU HMO hcp hn2
 go_wp2
 go_loopw [10,11] (fun v i wr=>∃(j:Nat) (A':Option Addr) (c':Nat),j≤n∧i=.int .i64 (j:Nat)∧v=.slice A' j c'∧FrE inE w1 wr (.slice A' j c') ((C.take j).map f)) (fun _ i _=>n-(intOf i).toNat)
 case atStart=>exact ⟨0,none,0,Nat.zero_le _,rfl,rfl,FrE.nil inE w1⟩
 case round=>
  obtain ⟨j,A1,c1,hj,rfl,rfl,hfr⟩:=hrel
  have HFR:=hJ hfr
  have hb:=hfr.2
  by_cases hlt:j<n
  · obtain ⟨a,ha⟩:∃a,C[j]? =some a:=⟨_,jE (by have:=HN.out;omega)⟩
    obtain ⟨gc,oc,rfl,hgc,hcc⟩:=HFC.out.1.rg.at_ (by have:=HN.out;omega)
    have a0:w1.cell? ⟨gc,oc+j,none⟩=some (.int .i64 a):=by have:=hcc j a ha 0 _ rfl;simpa [inE] using this
    have e0:=(hb.cell (p:=⟨gc,_,none⟩) hgc).trans a0
    have lc:gc<wr.heap.size:=Nat.lt_of_lt_of_le hgc hb.size
    have hml:((C.take j).map f).length=j:=by rw [List.length_map,List.length_take];have:=HN.out;omega
    have hmn:(C.take (j+1)).map f=(C.take j).map f ++ [f a]:=by rw [List.take_add_one,ha];simp
    have hfa:=HFF.out a
    have HPR:Hid (Calls Tryz.prog 189 #[.slice A L.length c,.int .i64 a] wr fun e w'=>e=.returned (.int .i64 (protI L a))∧w'=wr):=hJ (rprot_any wr c a (HL.out.up (HB1.out.trans (hb.mono HB1.out.size))) (by omega))
    obtain ⟨pa,hpa⟩:∃pa,protI L a=pa:=⟨_,rfl⟩
    rw [hpa] at HPR hfa
    obtain ⟨fa,hfa2⟩:∃fa,f a=fa:=⟨_,rfl⟩
    rw [hfa2] at hfa hmn
    obtain ⟨A2,c2,w3,hr3,hf3,_⟩:=hfr.push fa 3 (by omega) 25
    rw [hml] at hr3 hf3
    rw [←hmn] at hf3
    have HF3:=hJ hf3
    have hjI:(j:Int)+1<((n+1:Nat):Int):=by omega
    have hj2:(j:Int)<((n+1:Nat):Int):=by omega
    clear hfr hb ha hcc a0 hgc hml hmn hpa hfa2 hf3
    by_cases h1:lo≤a
    · by_cases h2:a<hi
      · rw [if_pos ⟨h1,h2⟩] at hfa
        subst hfa
        go_wp2_with (at_builtin;go_must (refine wpList_append_run rfl (.tmp 38) (.tmp 40) 25 rfl _ _ rfl rfl hr3 ?_))
        go_roundw
        case rel=>exact ⟨j+1,A2,c2,hlt,by go_num,rfl,HF3.out⟩
        case measure=>simp [intOf];omega
      · rw [if_neg (fun e=>h2 e.2)] at hfa
        subst hfa
        go_wp2_with (first|(go_at_call 189;refine HPR.out.mono ?_;rintro e w' ⟨rfl,rfl⟩)|(at_builtin;go_must (refine wpList_append_run rfl (.tmp 42) (.tmp 49) 25 rfl _ _ rfl rfl hr3 ?_)))
        go_roundw
        case rel=>exact ⟨j+1,A2,c2,hlt,by go_num,rfl,HF3.out⟩
        case measure=>simp [intOf];omega
    · rw [if_neg (fun e=>h1 e.1)] at hfa
      subst hfa
      go_wp2_with (first|(go_at_call 189;refine HPR.out.mono ?_;rintro e w' ⟨rfl,rfl⟩)|(at_builtin;go_must (refine wpList_append_run rfl (.tmp 42) (.tmp 49) 25 rfl _ _ rfl rfl hr3 ?_)))
      go_roundw
      case rel=>exact ⟨j+1,A2,c2,hlt,by go_num,rfl,HF3.out⟩
      case measure=>simp [intOf];omega
  · obtain rfl:j=n:=by omega
    have hii:¬(j:Int)+1<((j+1:Nat):Int):=by omega
    have hml:((C.take j).map f).length=j:=by rw [List.length_map,List.length_take];have:=HN.out;omega
    have hmd:=made_any wr (l:=C) (ps:=(C.take j).map f) cc c1 f (HFC.out.1.rg.up hb) hfr.1.rg (by have:=HN.out;omega) (by have:=HN.out;omega) (by rw [hml,HN.out]) (fun i a hi ha=>by
     rw [hml] at hi
     rw [List.getElem?_map,List.getElem?_take,if_pos hi,ha];rfl)
    rw [hml,HN.out,HR.out] at hmd
    have HMD:=hJ hmd
    have HBW:=hJ (HB1.out.trans (hb.mono HB1.out.size))
    clear hfr hb hml hmd
    go_wp2_with (go_at_call 197;refine HMD.out.mono ?_;rintro e w4 ⟨A4,c4,rfl,hf4⟩;have HF4:=hJ hf4;clear hf4)
    go_ret
    exact ⟨A4,c4,rfl,OwG.low HF4.out.1 HBW.out.size,HBW.out.trans (HF4.out.2.mono HBW.out.size)⟩
set_option maxRecDepth 100000
set_option maxHeartbeats 8000000
def okC (L:List Rg) (ways a:Int):Prop:=protI L a≠ -1∧andI (protI L a) ways=ways
theorem max_le:∀(l:List Int) (x:Int),(∃c∈l,c≤x)→∃a∈l,a≤x∧∀c∈l,c≤x→c≤a
 |[],x,⟨c,hc,_⟩=>by cases hc
 | d ::l,x,⟨c,hc,hcx⟩=>by
   by_cases h:∃c∈l,c≤x
   · obtain ⟨a,ha,h1,h2⟩:=max_le l x h
     by_cases hd:d≤x∧a<d
     · refine ⟨d,jM,hd.1,fun c hc hcx=>?_⟩
       rcases List.mem_cons.1 hc with rfl|hc
       · omega
       · have:=h2 c hc hcx;omega
     · refine ⟨a,List.mem_cons_of_mem _ ha,h1,fun c hc hcx=>?_⟩
       rcases List.mem_cons.1 hc with rfl|hc
       · omega
       · exact h2 c hc hcx
   · rcases List.mem_cons.1 hc with rfl|hc
     · refine ⟨c,jM,hcx,fun e he hex=>?_⟩
       rcases List.mem_cons.1 he with rfl|he
       · omega
       · exact absurd ⟨e,he,hex⟩ h
     · exact absurd ⟨c,hc,hcx⟩ h
theorem cuts_all {L:List Rg} {lo hi ways:Int} (hs:SrtR 0 L) (hp:∀r∈L,r.pr≠ -1) (hlt:lo<hi):AllR L lo hi ways ↔ ∀a∈cutsF L [lo,hi],lo≤a→a<hi→okC L ways a:=by
 obtain ⟨h1,h2⟩:=cutsF_spec L [lo,hi]
 have key:∀a p,atR L a=some p→p≠ -1:=fun a p h=>by
  obtain ⟨r,hr,_,_,e⟩:=(hs.at_iff a p).1 h
  rw [←e];exact hp r hr
 constructor
 · intro h a _ h3 h4
   obtain ⟨p,e1,e2⟩:=h a h3 h4
   unfold okC protI
   rw [e1]
   exact ⟨key a p e1,e2⟩
 · intro h x h3 h4
   obtain ⟨a,ha,a1,a2⟩:=max_le (cutsF L [lo,hi]) x ⟨lo,(h2 lo).2 (.inl (by simp)),h3⟩
   have hla:=a2 lo ((h2 lo).2 (.inl (by simp))) h3
   have hat:atR L x=atR L a:=atR_same L a1 fun r hr=>⟨fun e=>by have:=a2 r.lo ((h2 _).2 (.inr ⟨r,hr,.inl rfl⟩)) e.2;omega,fun e=>by have:=a2 r.hi ((h2 _).2 (.inr ⟨r,hr,.inr rfl⟩)) e.2;omega⟩
   obtain ⟨g1,g2⟩:=h a ha hla (by omega)
   unfold protI at g1 g2
   cases hv:atR L a with
   |none=>rw [hv] at g1;exact absurd rfl g1
   | some p=>
     rw [hv] at g2
     exact ⟨p,hat.trans hv,g2⟩
theorem rAll_any (w :World) {A:Option Addr} {L:List Rg} (c:Nat) (lo hi ways:Int) (hL:RgAt w A L) (hn:L.length≤5000) (hs:SrtR 0 L) (hp:∀r∈L,r.pr≠ -1) (hlt0:lo<hi):
 Calls Tryz.prog 167 #[.slice A L.length c,.int .i64 lo,.int .i64 hi,.int .i64 ways] w fun e w'=>e=.returned (.bool (allF L lo hi ways))∧Below w.heap.size w w':=by
 have HL:=hJ hL
 have HCU:=hJ (fun (V:World) (h:RgAt V A L) (g:Nat) (hM:EAt inE V (some ⟨g,0,none⟩) [lo,hi])=>cuts_any V (more:=[lo,hi]) c 2 h hM (by omega) (by simp))
 have hal:=cuts_all (ways:=ways) hs hp hlt0
 rw [←all_iff hs hlt0] at hal
 obtain ⟨C,hC⟩:∃C,cutsF L [lo,hi]=C:=⟨_,rfl⟩
 obtain ⟨R,hR⟩:∃R,allF L lo hi ways=R:=⟨_,rfl⟩
 have hcl:=cutsF_len L [lo,hi]
 have hcp:=cutsF_pos L lo hi
 have hhi : Hid (∀ a,C[C.length-1]? =some a→hi≤a):=hJ fun a ha=>by
  refine Int.not_lt.1 fun e=>?_
  have hm:hi∈C:=by rw [←hC];exact ((cutsF_spec L [lo,hi]).2 hi).2 (.inl (by simp))
  have hr:RisR C:=by rw [←hC];exact (cutsF_spec L [lo,hi]).1
  obtain ⟨i,hi2⟩:=List.mem_iff_getElem?.1 hm
  have hil:=(jS.1 hi2).1
  have mono :∀(l:List Int) (i j:Nat) (x y:Int),RisR l→i≤j→l[i]? =some x→l[j]? =some y→x≤y:=by
   intro l
   induction l with
   |nil=>intro i j x y _ _ h;simp at h
   | cons a l ih =>
     intro i j x y hr hij hx hy
     cases l with
     | nil=>
       have:i=0:=by have:=(jS.1 hx).1;simp at this;omega
       have:j=0:=by have:=(jS.1 hy).1;simp at this;omega
       subst i j
       rw [hx] at hy;cases hy;omega
     | cons b l=>
       cases j with
       | zero => obtain rfl:i=0:=by omega
                 rw [hx] at hy;cases hy;omega
       | succ j=>
         cases i with
         | zero=>
           have h0:a=x:=by simpa using hx
           have:=ih 0 j b y hr.2 (by omega) rfl (by simpa using hy)
           have:=hr.1
           omega
         |succ i=>exact ih i j x y hr.2 (by omega) (by simpa using hx) (by simpa using hy)
  have:=mono C i (C.length-1) hi a hr (by omega) hi2 ha
  omega
 rw [hC] at hcl hcp hal HCU
 rw [hR] at hal ⊢
 have HAL:=hJ hal
 have hcl2:C.length≤10002:=by simp at hcl;omega
 clear hL hC hR hcl hal hs hp
 have HWA:=hJ (show Below w.heap.size w (w.alloc (.cells #[.int .i64 lo,.int .i64 hi] 3)) from jB.alloc jN _)
 have HMO:Hid (EAt inE (w.alloc (.cells #[.int .i64 lo,.int .i64 hi] 3)) (some ⟨w.heap.size,0,none⟩) [lo,hi]):=hJ (EAt.many inE w [lo,hi] 3)
 go_enter Tryz.func167,Tryz.ntmps167
 go_wp2_with fail
 generalize w.alloc (.cells #[.int .i64 lo,.int .i64 hi] 3)=wa at *
 refine (HCU.out wa (HL.out.up HWA.out) _ HMO.out).mono ?_
 rintro e w1 ⟨Ac,cc,rfl,hfc⟩
 have HFC:=hJ hfc
 have HB1:=hJ (HWA.out.trans (hfc.2.mono HWA.out.size))
 obtain ⟨n,hn2⟩:∃n,C.length=n+1:=⟨C.length-1,by omega⟩
 have HN:=hJ hn2
 rw [hn2] at hcl2 ⊢
 clear hfc HCU HMO hcp hn2
 go_wp2
 go_loop [10,11] (fun i _=>∃(j:Nat),j≤n∧i=.int .i64 (j:Nat)∧Hid (∀i a,i<j→C[i]? =some a→lo≤a→a<hi→okC L ways a)) (fun i _=>n-(intOf i).toNat)
 case atStart=>exact ⟨0,Nat.zero_le _,rfl,hJ fun i a hi=>by omega⟩
 case round=>
  obtain ⟨j,hj,rfl,HJ⟩:=hrel
  by_cases hlt:j<n
  · obtain ⟨a,ha⟩:∃a,C[j]? =some a:=⟨_,jE (by have:=HN.out;omega)⟩
    obtain ⟨gc,oc,rfl,hgc,hcc⟩:=HFC.out.1.rg.at_ (by have:=HN.out;omega)
    have a0:w1.cell? ⟨gc,oc+j,none⟩=some (.int .i64 a):=by have:=hcc j a ha 0 _ rfl;simpa [inE] using this
    have HHA:=hJ ha
    have HPR:Hid (Calls Tryz.prog 189 #[.slice A L.length c,.int .i64 a] w1 fun e w'=>e=.returned (.int .i64 (protI L a))∧w'=w1):=hJ (rprot_any w1 c a (HL.out.up HB1.out) (by omega))
    have HOK:Hid (okC L ways a ↔ protI L a≠ -1∧bits .and .i64 (protI L a) ways=ways):=hJ Iff.rfl
    obtain ⟨p,hpa⟩:∃p,protI L a=p:=⟨_,rfl⟩
    rw [hpa] at HPR HOK
    have hjI:(j:Int)+1<((n+1:Nat):Int):=by omega
    have hj2:(j:Int)<((n+1:Nat):Int):=by omega
    have HYES:Hid ((lo≤a→a<hi→okC L ways a)→∀i b,i<j+1→C[i]? =some b→lo≤b→b<hi→okC L ways b):=hJ fun h i b hi hb=>by
     rcases Nat.lt_or_ge i j with h2|h2
     · exact HJ.out i b h2 hb
     · obtain rfl:i=j:=by omega
       rw [HHA.out] at hb
       cases hb
       exact h
    have HNO:Hid (lo≤a→a<hi→¬okC L ways a→R=false):=hJ fun h1 h2 h3=>by
     cases hr:R with
     |false=>rfl
     |true=>exact absurd (HAL.out.1 hr a (jG HHA.out) h1 h2) h3
    clear hcc ha hpa hgc
    by_cases h1:a<lo
    · have hN2:=hJ (HYES.out fun e=>by omega)
      go_wp2
      go_round
      case rel=>exact ⟨j+1,hlt,by go_num,hN2⟩
      case measure=>simp [intOf];omega
    · by_cases h2:hi≤a
      · have hN2:=hJ (HYES.out fun e e2=>by omega)
        go_wp2
        go_round
        case rel=>exact ⟨j+1,hlt,by go_num,hN2⟩
        case measure=>simp [intOf];omega
      · by_cases h3:p= -1
        · have hd:(p== -1)=true:=by rw [h3];rfl
          have HF:=hJ (HNO.out (by omega) (by omega) (fun e=>(HOK.out.1 e).1 h3))
          clear h3
          go_wp2_with (go_at_call 189;refine HPR.out.mono ?_;rintro e w' ⟨rfl,rfl⟩)
          go_ret
          exact ⟨ret_bool HF.out.symm,HB1.out⟩
        · have hd:(p== -1)=false:=beq_eq_false_iff_ne.2 h3
          by_cases h4:bits .and .i64 p ways=ways
          · have hd2:(bits .and .i64 p ways !=ways)=false:=by simp [h4]
            have hN2:=hJ (HYES.out fun _ _=>HOK.out.2 ⟨h3,h4⟩)
            clear h3 h4
            go_wp2_with (go_at_call 189;refine HPR.out.mono ?_;rintro e w' ⟨rfl,rfl⟩)
            go_round
            case rel=>exact ⟨j+1,hlt,by go_num,hN2⟩
            case measure=>simp [intOf];omega
          · have hd2:(bits .and .i64 p ways !=ways)=true:=by simp [h4]
            have HF:=hJ (HNO.out (by omega) (by omega) (fun e=>h4 (HOK.out.1 e).2))
            clear h3 h4
            go_wp2_with (go_at_call 189;refine HPR.out.mono ?_;rintro e w' ⟨rfl,rfl⟩)
            go_ret
            exact ⟨ret_bool HF.out.symm,HB1.out⟩
  · obtain rfl:j=n:=by omega
    have hii:¬(j:Int)+1<((j+1:Nat):Int):=by omega
    have HF:Hid (R=true):=hJ (HAL.out.2 fun a ha h1 h2=>by
     obtain ⟨i,hi2⟩:=List.mem_iff_getElem?.1 ha
     have hil:=(jS.1 hi2).1
     rw [HN.out] at hil
     rcases Nat.lt_or_ge i j with h|h
     · exact HJ.out i a h hi2 h1 h2
     · have:=hhi.out a (by rw [HN.out,Nat.add_sub_cancel,show j=i by omega];exact hi2)
       omega)
    go_wp2
    go_ret
    exact ⟨ret_bool HF.out.symm,HB1.out⟩
end Go.Proofs.YtlhfjaagkgengaaGreat
