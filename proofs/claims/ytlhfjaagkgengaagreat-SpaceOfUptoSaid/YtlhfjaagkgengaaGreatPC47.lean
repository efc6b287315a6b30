/- almanaclaw16: the document's Do beside the spaces; a fork; an end. almanaclaw16: begun: what is there at the begin. almanaclaw16: ids: how many pages the spaces have together. almanaclaw16: begun, wal -/
import Derived.Test.YtlhfjaagkgengaaGreatPC46
import Derived.Test.YtlhfjaagkgengaaGreatPC03
import Derived.Deep.RegionHeldLaw
import Derived.StillTailTactics
namespace Go.Proofs.YtlhfjaagkgengaaGreat
set_option maxRecDepth 100000
open Go.RowKit Go.Maps
set_option linter.unusedVariables false
set_option linter.unusedSimpArgs false
theorem op7_right (k:Int):(OpP.mk 7 k 0 0 0 []).right=true:=by
 unfold OpP.right right9
 simp
theorem op8_right (k:Int):(OpP.mk 8 k 0 0 0 []).right=true:=by
 unfold OpP.right right9
 simp
theorem free_first:∀{P:MaP},¬fullB P=true→P[firstN P]? =some none
 |[],h=>absurd rfl h
 |none::P,_=>rfl
 | some p::P,h=>by
   have ih:=free_first (P:=P) (fun e=>h (by unfold fullB at *;rw [List.all_cons,e];rfl))
   have e:firstN (some p::P)=firstN P+1:=by
    unfold firstN
    rw [List.takeWhile_cons]
    simp
   rw [e]
   simpa using ih
theorem stL_len (z:Nat):∀(bs:Bytes) (a:Nat) (L:PgL),(stL z L a bs).length≤L.length+bs.length
 |[],_,_=>Nat.le_refl _
 | b::bs,a,L=>by
   unfold stL
   have h1:=stL_len z bs (a+1) (stB z L a b)
   have h2:=stB_len z a b L
   rw [List.length_cons]
   omega
theorem opP_len (S:SpD) (p:PrP) (o:OpP):(opP S p o).1.L.length≤p.L.length+o.data.length:=by
 have h3:=List.length_filter_le (fun q:Nat×Bytes=>keepU o.at_ o.n q.1) p.L
 have h6:=stL_len S.pg o.data o.at_.toNat p.L
 unfold opP regP
 repeat' split
 all_goals (simp only;omega)
theorem load_few {S:SpD} {R:List Rg} {a n:Int} (h:¬(8192<n∧n≤1048576)) (hz:checkF S R a n 1=0):n.toNat≤8192:=by
 unfold checkF at hz
 split at hz
 · cases hz
 · omega
theorem SBy.low {w0 w V:World} {A:Option Addr} {n:Nat} {L:Bytes} (h:SBy w A n L) (hA:∀g o,0<n→A=some ⟨g,o,none⟩→g<w0.heap.size) (h1:Below w0.heap.size w0 w) (h2:Below w0.heap.size w0 V):SBy V A n L:=⟨h.1,fun hp=>by
 obtain ⟨b,o,rfl,hb,hc⟩:=h.2 hp
 have hl:=hA b o hp rfl
 refine ⟨b,o,rfl,Nat.lt_of_lt_of_le hl h2.size,fun k hk=>?_⟩
 rw [h2.cell (p:=⟨b,o+k,none⟩) hl,←h1.cell (p:=⟨b,o+k,none⟩) hl]
 exact hc k hk⟩
section
variable {S:SpD} {P:MaP} {k:Nat} {p:PrP}
theorem get_at (hp:P[k]? =some (some p)):getP P (k:Nat)=some p:=by
 unfold getP
 rw [if_pos (by omega),Int.toNat_natCast,hp]
 rfl
theorem doF_fork (hp:P[k]? =some (some p)):doF S P ⟨7,(k:Nat),0,0,0,[]⟩=if fullB P=true then (P,⟨5,0,[],[]⟩) else (P.set (firstN P) (some p),⟨0,(firstN P:Nat),[],[]⟩):=by
 have hc:chkF S P ⟨7,(k:Nat),0,0,0,[]⟩=if fullB P=true then 5 else 0:=by
  unfold chkF
  rw [if_neg (by rw [op7_right];simp)]
  simp only [get_at hp]
  simp
 unfold doF
 rw [hc]
 simp only [get_at hp]
 by_cases hf:fullB P=true
 · simp [hf]
 · simp [hf,doPr]
theorem doF_exit (hp:P[k]? =some (some p)):doF S P ⟨8,(k:Nat),0,0,0,[]⟩=(P.set k none,⟨0,0,[],[]⟩):=by
 have hc:chkF S P ⟨8,(k:Nat),0,0,0,[]⟩=0:=by
  unfold chkF
  rw [if_neg (by rw [op8_right];simp)]
  simp only [get_at hp]
  simp
 unfold doF
 rw [hc]
 simp only [get_at hp]
 simp [doPr]
end
section
variable {w0 w w' w1 w2:World} {o:WD} {t t':PSt ShS} {C C':Cu} {kk k U:Nat} {sp:List (Option Spc)} {P P':List (Option MPr)} {s s':Spc} {p p':PrP}
theorem plP_mem {q:MPr} (h:some q∈P):some q.pl∈plP P:=by
 unfold plP
 exact List.mem_map.2 ⟨_,h,rfl⟩
theorem plP_get {q:PrP} (h:(plP P)[k]? =some (some q)):∃p5:MPr,P[k]? =some (some p5)∧p5.pl=q:=by
 unfold plP at h
 rw [List.getElem?_map] at h
 cases hp:P[k]? with
 |none=>rw [hp] at h;cases h
 | some x=>
   rw [hp] at h
   cases x with
   |none=>cases h
   | some y=>
     simp only [Option.map_some] at h
     exact ⟨y,rfl,by injection h with h;injection h⟩
theorem WS.rs (h:WS w0 w o t C kk U sp P):∀q,some q∈P→rightL o.D.ps q.R=true∧q.R.length≤1000∧q.L.length≤U:=by
 intro q hq
 obtain ⟨i,hi⟩:=List.mem_iff_getElem?.1 (plP_mem hq)
 obtain ⟨s,hs,hr,hd⟩:=h.r.held i q.pl hi
 have h1:=hr.rg.right
 have h2:=hr.rg.len
 rw [hr.R,hd.2.2.2] at h1
 rw [hr.R,hd.2.2.1] at h2
 have hb:=h.b.ma.f.sok.b7
 change 1≤o.D.rg∧o.D.rg≤32 at hb
 have h3:=h.few _ (plP_mem hq)
 have e:q.pl.L.length=q.L.length:=by unfold MPr.pl;simp
 have e2:q.pl.R.length=q.R.length:=rfl
 exact ⟨h1,by omega,by omega⟩
def DoB (w0 w:World) (o:WD) (t:PSt ShS) (C:Cu) (kk:Nat) (sp:List (Option Spc)) (P:List (Option MPr)) (op:OpP) (e:Ending) (w':World):Prop:=
 ∃P',WB w0 w' o t C kk (lS sp) P' (qS sp)∧plP P'=(doF o.D.sd (plP P) op).1∧AnsAt w w' (doF o.D.sd (plP P) op).2 e∧Off (maO o.D P) w w'∧∀q,maO o.D P' q→maO o.D P q∨w.heap.size≤q
theorem WS.do (h:WS w0 w o t C kk U sp P) (kind pid at_ n prot:Int) {data:Bytes} {A:Option Addr} (c:Nat) (hU:U+data.length≤100000) (hS:SBy w A data.length data) (hA:∀g o',0<data.length→A=some ⟨g,o',none⟩→g<w0.heap.size):
 Calls Tryz.prog 70 #[.pointer (some ⟨o.D.X,0,none⟩),.agg #[.int .i64 kind,.int .i64 pid,.int .i64 at_,.int .i64 n,.int .i64 prot,.slice A data.length c]] w (DoB w0 w o t C kk sp P ⟨kind,pid,at_,n,prot,data⟩):=by
 refine (do_any h.b.ma kind pid at_ n prot data (fun q hq=>by have:=h.rs q hq;exact ⟨this.1,this.2.1,by omega⟩) c hS (fun g o' hp e hm=>by have:=hA g o' hp e;have:=h.b.new g (.inl hm);omega)).mono ?_
 rintro e w' ⟨P',h1,h2,h3,h4⟩
 exact ⟨P',h.b.mach h1 h2,h3,h4,h2.off,h2.own⟩
theorem WB.off {l:List Spc} {Q:List (Option Nat)} {T:Nat→Prop} (h:WB w0 w o t C kk l P Q) (ho:Off T w w') (h1:∀b,T b→¬wO o t l P b) (h2:∀b,T b→w0.heap.size≤b):WB w0 w' o t C kk l P Q:=by
 have lW:=h.ltW
 have nW:¬T o.W:=fun e=>h1 _ e (.inr (.inr (.inl rfl)))
 exact ⟨h.lw.off ho (fun q hq e=>h1 q hq (.inl e)) h2,h.ma.off ho fun q hq e=>h1 q e (.inr (.inl hq)),h.row.off ho fun q e e2=>h1 q e2 (.inr (.inr (.inr e))),h.lQ,fun i hi=>(ho.cell (p:=⟨o.W,i,none⟩) lW nW).trans (h.cc i hi),(ho.cell (p:=⟨o.W,9,none⟩) lW nW).trans h.c9,(ho.cell (p:=⟨o.W,10,none⟩) lW nW).trans h.c10,(ho.cell (p:=⟨o.W,11,none⟩) lW nW).trans h.c11,h.neW,h.s1,h.s2,h.new⟩
theorem WS.head (h:WS w0 w o t C kk U sp P) (hk:sp[k]? =some (some s)):WB w0 w o t C kk (s::lS (sp.set k none)) P (qS sp):=h.b.perm (lS_out hk)
theorem WS.qn (h:WS w0 w o t C kk U sp P) (hk:sp[k]? =some (some s)):s.n≤U:=by
 obtain ⟨p,hp,hr,_⟩:=h.r.at_ hk
 have:=hr.cnt (h.b.lw.sw.ss s (lS_mem.2 (jG hk))).sp
 have:=h.few p (jG hp)
 omega
theorem WS.put {U':Nat} (hr:WR o.D C sp (plP P)) (hf:∀q,some q∈plP P→q.L.length≤U) (hk:sp[k]? =some (some s)) (hb:WB w0 w' o t' C' kk (s'::lS (sp.set k none)) P' (qS sp)) (hX:s'.D=s.D) (hP:plP P'=(plP P).set k (some p')) (h1:PgRel s' C' p') (h2:ShOk o.D s) (hm:∀x∈lS (sp.set k none),x.mem C'=x.mem C) (hU:U≤U') (hp:p'.L.length≤U'):
 WS w0 w' o t' C' kk U' (sp.set k (some s')) P':=by
 have hkl:=(jS.1 hk).1
 refine ⟨?_,?_,fun q hq=>?_⟩
 · rw [qS_same hk (by rw [hX])]
   exact hb.perm (lS_in hkl).symm
 · rw [hP]
   exact hr.put hkl h1 (by unfold ShOk at *;rw [hX];exact h2) hm
 · rw [hP] at hq
   rcases set_mem hq with e|⟨i,_,hi⟩
   · cases e;exact hp
   · exact Nat.le_trans (hf q (jG hi)) hU
theorem put_first (h0:∃s,sp[0]? =some (some s)):∃s,(sp.set k (some s'))[0]? =some (some s):=by
 obtain ⟨s,hs⟩:=h0
 rw [List.getElem?_set]
 by_cases e:k=0
 · rw [if_pos e,e,if_pos (jS.1 hs).1]
   exact ⟨_,rfl⟩
 · rw [if_neg e]
   exact ⟨s,hs⟩
def FkB (w0 w:World) (o:WD) (t:PSt ShS) (C:Cu) (kk:Nat) (s:Spc) (l:List Spc) (P:List (Option MPr)) (Q:List (Option Nat)) (e:Ending) (w':World):Prop:=
 ∃X Mm A' cap' t',e=.returned (.pointer (some ⟨X,0,none⟩))∧WB w0 w' o t' (kpC C s.m) kk (⟨⟨X,Mm,o.d.Q,s.D.cf,s.D.pg,s.D.rg,s.D.ps⟩,A',cap',s.L,s.m,s.n⟩::s::l) P Q∧(∀x∈s::l,x.mem (kpC C s.m)=x.mem C)∧Off (swO o.d t (s::l)) w w'
theorem WB.fork {l:List Spc} {Q:List (Option Nat)} (h:WB w0 w o t C kk (s::l) P Q) (hr:RgOk s) (hn:s.n≤100000) (hl:l.length<900):
 Calls Tryz.prog 32 #[.pointer (some ⟨s.D.X,0,none⟩)] w (FkB w0 w o t C kk s l P Q):=by
 refine (h.lw.sw.fork hr hn hl).mono ?_
 rintro e w' ⟨X,Mm,A',cap',t',he,h1,h2,_,h3⟩
 exact ⟨X,Mm,A',cap',t',he,h.sw (h.lw.go h1 h2) h2,h3,h2.off⟩
theorem WS.new (hr:WR o.D C sp (plP P)) (hf:∀q,some q∈plP P→q.L.length≤U) (hk:sp[k]? =some none) (hb:WB w0 w' o t' C' kk (s'::lS sp) P' ((qS sp).set k (some s'.D.X))) (hP:plP P'=(plP P).set k (some p')) (h1:PgRel s' C' p') (h2:ShOk o.D s') (hm:∀x∈lS sp,x.mem C'=x.mem C) (hp:p'.L.length≤U):
 WS w0 w' o t' C' kk U (sp.set k (some s')) P':=by
 have hkl:=(jS.1 hk).1
 have e:=lS_none hk
 refine ⟨?_,?_,fun q hq=>?_⟩
 · rw [qS_set]
   have hp:=lS_in (s:=s') hkl
   rw [e] at hp
   exact hb.perm hp.symm
 · rw [hP]
   exact hr.put hkl h1 h2 (by rw [e];exact hm)
 · rw [hP] at hq
   rcases set_mem hq with e|⟨i,_,hi⟩
   · cases e;exact hp
   · exact hf q (jG hi)
def ClB (w0 w:World) (o:WD) (t:PSt ShS) (C:Cu) (kk:Nat) (s:Spc) (l:List Spc) (P:List (Option MPr)) (Q:List (Option Nat)) (e:Ending) (w':World):Prop:=
 e=.returned (.tuple #[])∧∃t' C',WB w0 w' o t' C' kk l P Q∧(∀x∈l,x.mem C'=x.mem C)∧SpAt w' s.D none 0 [] (fun _=>none) 0∧Off (swO o.d t (s::l)) w w'
theorem WB.close {l:List Spc} {Q:List (Option Nat)} (h:WB w0 w o t C kk (s::l) P Q):
 Calls Tryz.prog 33 #[.pointer (some ⟨s.D.X,0,none⟩)] w (ClB w0 w o t C kk s l P Q):=by
 refine h.lw.sw.close.mono ?_
 rintro e w' ⟨he,t',C',h1,h2,_,h3,h4,_⟩
 exact ⟨he,t',C',h.sw (h.lw.go h1 h2) h2,h3,h4.sp,h2.off⟩
theorem WS.del (hr:WR o.D C sp (plP P)) (hf:∀q,some q∈plP P→q.L.length≤U) (hb:WB w0 w' o t' C' kk (lS (sp.set k none)) P' ((qS sp).set k none)) (hP:plP P'=(plP P).set k none) (hm:∀x∈lS (sp.set k none),x.mem C'=x.mem C):
 WS w0 w' o t' C' kk U (sp.set k none) P':=by
 refine ⟨?_,?_,fun q hq=>?_⟩
 · rw [qS_set]
   exact hb
 · rw [hP]
   exact hr.del hm
 · rw [hP] at hq
   rcases set_mem hq with e|⟨i,_,hi⟩
   · cases e
   · exact hf q (jG hi)
end
set_option maxRecDepth 100000
theorem nm_ma {w w':World} {cf:Nat→Int} {X S B Q:Nat} (hg:GoodC cf) (hc:∀i,i<9→w'.cell? ⟨X,i,none⟩=some (.int .i64 (cf i)))
 (h9:w'.cell? ⟨X,9,none⟩=some (.pointer (some ⟨S,0,none⟩))) (h10:w'.cell? ⟨X,10,none⟩=some (.slice (some ⟨Q,0,none⟩) (cf 6).toNat (cf 6).toNat))
 (hs:w'.cell? ⟨S,0,none⟩=some (.slice (some ⟨B,0,none⟩) (cf 6).toNat (cf 6).toNat))
 (hb:OwE boE w.heap.size w' (.slice (some ⟨B,0,none⟩) (cf 6).toNat (cf 6).toNat) (List.replicate (cf 6).toNat false))
 (hq:OwE prE w.heap.size w' (.slice (some ⟨Q,0,none⟩) (cf 6).toNat (cf 6).toNat) (List.replicate (cf 6).toNat none))
 (hl:w.heap.size≤S∧w.heap.size≤B∧w.heap.size≤Q∧w.heap.size≤X) (n1:S≠B) (n2:B≠Q∧S≠Q) (n3:X≠B∧X≠S∧X≠Q):
 MaAt w' ⟨X,S,some ⟨B,0,none⟩,(cf 6).toNat,some ⟨Q,0,none⟩,(cf 6).toNat,cf,(cf 4).toNat,(cf 6).toNat,(cf 7).toNat,(cf 8).toNat⟩ (List.replicate (cf 6).toNat none)∧
  ∀q,maO ⟨X,S,some ⟨B,0,none⟩,(cf 6).toNat,some ⟨Q,0,none⟩,(cf 6).toNat,cf,(cf 4).toNat,(cf 6).toNat,(cf 7).toNat,(cf 8).toNat⟩ (List.replicate (cf 6).toNat none) q→w.heap.size≤q:=by
 obtain ⟨g1,g2,g3,g4⟩:=id hg
 have hno:∀p:MPr,¬some p∈List.replicate (cf 6).toNat (none:Option MPr):=fun p hp=>by
  have:=List.eq_of_mem_replicate hp
  cases this
 refine ⟨⟨⟨hc,h9,h10,hs,?_,?_,by simp,by simp,hg,by simp only;omega,by simp only;omega,by simp only;omega,by simp only;omega,fun q e=>?_,fun q e=>?_⟩,fun p hp=>absurd hp (hno p),fun i j p q hi=>absurd (jG hi) (hno p),fun p hp=>absurd hp (hno p)⟩,fun q hq=>?_⟩
 · rw [List.map_replicate]
   exact hb.mono (Nat.zero_le _)
 · rw [List.map_replicate]
   exact hq.mono (Nat.zero_le _)
 · have e2:B=q:=by unfold MaD.bv at e;simpa [Value.ownBlock] using e
   subst e2
   exact ⟨fun e=>n3.1 e.symm,fun e=>n1 e.symm⟩
 · have e2:Q=q:=by unfold MaD.qv at e;simpa [Value.ownBlock] using e
   subst e2
   exact ⟨fun e=>n3.2.2 e.symm,fun e=>n2.2 e.symm⟩
 · rcases hq with (e|e|e|e)|⟨p,hp,_⟩
   · rw [e];exact hl.2.2.2
   · rw [e];exact hl.1
   · have e2:B=q:=by unfold MaD.bv at e;simpa [Value.ownBlock] using e
     rw [←e2];exact hl.2.1
   · have e2:Q=q:=by unfold MaD.qv at e;simpa [Value.ownBlock] using e
     rw [←e2];exact hl.2.2.1
   · exact absurd hp (hno p)
set_option maxRecDepth 100000
section
variable {σ:Type} {K:SnkF σ} {M:Snk K} {P:PSnk K} {w w':World} {d:PD} {t:PSt σ} {C:Cu} {k:Nat} {l:List Spc}
end
set_option maxRecDepth 100000
theorem wb_new {S:Nat} {w0 w3:World} {d:PD} {t:PSt ShS} {C:Cu} {k:Nat} {l:List Spc} {D:MaD} {P:List (Option MPr)} {cf:Nat→Int} {n:Nat} (hl:LW S w0 w3 d t C k l) (hm:MaAt w3 D P) (hsep:∀q,maO D P q→¬swO d t l q) (hown:∀q,maO D P q→w0.heap.size≤q) (hcf:D.cf=cf) (hn:D.n=n) (hnb:1≤n∧n≤64) (T:TypeId):
 WB w0 ((w3.alloc (.cells (madeCells #[.pointer none] n) 30)).alloc (.cells #[.int .i64 (cf 0),.int .i64 (cf 1),.int .i64 (cf 2),.int .i64 (cf 3),.int .i64 (cf 4),.int .i64 (cf 5),.int .i64 (cf 6),.int .i64 (cf 7),.int .i64 (cf 8),.pointer (some ⟨d.Q,0,none⟩),.pointer (some ⟨D.X,0,none⟩),.slice (some ⟨w3.heap.size,0,none⟩) n n] T)) ⟨w3.heap.size+1,S,d,D,some ⟨w3.heap.size,0,none⟩,n⟩ t C k l P (List.replicate n none):=by
 have b1:Below w3.heap.size w3 (w3.alloc (.cells (madeCells #[.pointer none] n) 30)):=jB.alloc jN _
 have hmd:=OwE.made psE rfl (x:=none) rfl n (by omega) w3
 change OwE psE w3.heap.size (w3.alloc (.cells (madeCells #[.pointer none] n) 30)) _ _ at hmd
 have z1:(w3.alloc (.cells (madeCells #[.pointer none] n) 30)).heap.size=w3.heap.size+1:=by simp
 generalize (w3.alloc (.cells (madeCells #[.pointer none] n) 30))=w4 at *
 have hnw:=heap_alloc_new w4 (.cells #[.int .i64 (cf 0),.int .i64 (cf 1),.int .i64 (cf 2),.int .i64 (cf 3),.int .i64 (cf 4),.int .i64 (cf 5),.int .i64 (cf 6),.int .i64 (cf 7),.int .i64 (cf 8),.pointer (some ⟨d.Q,0,none⟩),.pointer (some ⟨D.X,0,none⟩),.slice (some ⟨w3.heap.size,0,none⟩) n n] T)
 have b2:Below w4.heap.size w4 (w4.alloc (.cells #[.int .i64 (cf 0),.int .i64 (cf 1),.int .i64 (cf 2),.int .i64 (cf 3),.int .i64 (cf 4),.int .i64 (cf 5),.int .i64 (cf 6),.int .i64 (cf 7),.int .i64 (cf 8),.pointer (some ⟨d.Q,0,none⟩),.pointer (some ⟨D.X,0,none⟩),.slice (some ⟨w3.heap.size,0,none⟩) n n] T)):=jB.alloc jN _
 rw [z1] at hnw
 generalize w4.alloc (.cells #[.int .i64 (cf 0),.int .i64 (cf 1),.int .i64 (cf 2),.int .i64 (cf 3),.int .i64 (cf 4),.int .i64 (cf 5),.int .i64 (cf 6),.int .i64 (cf 7),.int .i64 (cf 8),.pointer (some ⟨d.Q,0,none⟩),.pointer (some ⟨D.X,0,none⟩),.slice (some ⟨w3.heap.size,0,none⟩) n n] T)=w5 at *
 have hc:∀k v,(#[.int .i64 (cf 0),.int .i64 (cf 1),.int .i64 (cf 2),.int .i64 (cf 3),.int .i64 (cf 4),.int .i64 (cf 5),.int .i64 (cf 6),.int .i64 (cf 7),.int .i64 (cf 8),.pointer (some ⟨d.Q,0,none⟩),.pointer (some ⟨D.X,0,none⟩),.slice (some ⟨w3.heap.size,0,none⟩) n n]:Array Value)[k]? =some v→w5.cell? ⟨w3.heap.size+1,k,none⟩=some v:=fun k v hv=>by
  rw [cell_of_row _ _ _ _ _ _ hnw];exact hv
 have bb:Below w3.heap.size w3 w5:=b1.trans (b2.mono (by omega))
 have hz:=hl.bel.size
 have hro:∀q,(WD.mk (w3.heap.size+1) S d D (some ⟨w3.heap.size,0,none⟩) n).ro q→w3.heap.size≤q:=fun q hq=>by
  rcases hq with e|e
  · rw [e];simp only;omega
  · have e2:w3.heap.size=q:=by unfold WD.rv at e;simpa [Value.ownBlock] using e
    omega
 refine ⟨hl.up bb,hm.up bb,?_,by rw [List.length_replicate];exact hn.symm,fun i hi=>?_,hc 9 _ rfl,hc 10 _ rfl,?_,?_,fun q hq=>⟨hsep q hq,fun e=>by have:=hro q e;have:=hm.lt hq;omega⟩,fun q hq e=>by have:=hro q hq;have:=hl.sw.lt e;omega,fun q hq=>?_⟩
 · unfold WD.rv
   simp only
   rw [hn]
   exact (hmd.up b2).mono (Nat.zero_le _)
 · simp only
   rw [hcf]
   rcases (show i=0∨i=1∨i=2∨i=3∨i=4∨i=5∨i=6∨i=7∨i=8 by omega) with rfl|rfl|rfl|rfl|rfl|rfl|rfl|rfl|rfl<;>exact hc _ _ rfl
 · unfold WD.rv
   simp only
   rw [hn]
   exact hc 11 _ rfl
 · unfold WD.rv
   simp only
   intro e
   simp [Value.ownBlock] at e
 · rcases hq with e|e
   · exact hown q e
   · have:=hro q e;omega
theorem LW.rebase {S:Nat} {V w0 w:World} {d:PD} {t:PSt ShS} {C:Cu} {k:Nat} {l:List Spc} (h:LW S V w d t C k l) (hb:Below w0.heap.size w0 V):LW S w0 w d t C k l:=
 ⟨h.sw,hb.trans (h.bel.mono hb.size),fun q hq=>by have:=h.own q hq;have:=hb.size;omega,h.rm⟩
theorem doF_make {S:SpD} {n:Nat} (hn:1≤n):doF S (List.replicate n none) ⟨1,0,0,0,0,[]⟩=((List.replicate n none).set 0 (some ⟨[],[]⟩),⟨0,0,[],[]⟩):=by
 obtain ⟨m,rfl⟩:∃m,n=m+1:=⟨n-1,by omega⟩
 rw [List.replicate_succ]
 rfl
theorem lS_rep (n:Nat):lS (List.replicate n none)=[]:=by
 unfold lS
 induction n with
 |zero=>rfl
 |succ n ih=>rw [List.replicate_succ,List.filterMap_cons];exact ih
def BgPost (w:World) (cf:Nat→Int) (held:Int) (e:Ending) (w':World):Prop:=
 ∃o t C sp P,e=.returned (.pointer (some ⟨o.W,0,none⟩))∧WS w w' o t C 1990000 0 sp P∧(o.d.n:Int)=held∧(∃s,sp[0]? =some (some s))∧o.D.cf=cf
set_option maxHeartbeats 4000000 in
theorem begun16_any (w:World) {cf:Nat→Int} {held:Int} (hg:GoodC cf) (hh:1≤held∧held≤4096):
 Calls Tryz.prog 21 #[cfgV cf,.int .i64 held] w (BgPost w cf held):=by
 have HG:=hJ hg
 have HPO:=hJ (fun V:World=>pagerOf_any V cf held hg.1 hh)
 have HNM:=hJ (fun V:World=>nmNew_any V cf)
 have hbx:Below w.heap.size w (w.alloc (.cells #[.int .i64 (cf 0),.int .i64 (cf 1),.int .i64 (cf 2),.int .i64 (cf 3),.int .i64 (cf 4),.int .i64 (cf 5),.int .i64 (cf 6),.int .i64 (cf 7),.int .i64 (cf 8)] 23)):=jB.alloc jN _
 have HBX:=hJ hbx
 clear hg hh hbx
 unfold cfgV at HPO HNM ⊢
 go_enter Tryz.func21,Tryz.ntmps21
 go_wp2_with fail
 refine (HPO.out _).mono ?_
 intro e w1 hpo
 obtain ⟨S,d,t,rfl,hl,hz,hn⟩:=lw_po2 hpo
 obtain ⟨c0,c1,c2,c3,c4,c5,c6,c7,c8⟩:=cfg_cells hl.bel
 have HL1:=hJ hl
 have HZN:=hJ (And.intro hz hn)
 clear hl hz hn hpo
 go_wp2_with fail
 refine (HNM.out _).mono ?_
 intro e w2 hnm
 obtain ⟨hb2,hnm⟩:=hnm
 rcases hnm with ⟨hbad,_⟩|⟨_,X,S2,B2,Q2,rfl,x1,x2,x3,x4,x5,x6,x7,x8,x9,x10⟩
 · exact absurd HG.out hbad
 obtain ⟨hma,hnew⟩:=nm_ma HG.out x1 x2 x3 x4 x5 x6 x7 x8 x9 x10
 generalize hD0:MaD.mk X S2 (some ⟨B2,0,none⟩) (cf 6).toNat (some ⟨Q2,0,none⟩) (cf 6).toNat cf (cf 4).toNat (cf 6).toNat (cf 7).toNat (cf 8).toNat=D at hma hnew
 have HD0:=hJ hD0
 have HMA:=hJ hma
 have HNW:=hJ hnew
 have HL2:=hJ (HL1.out.up hb2)
 have HSEP:Hid (∀q,maO D (List.replicate (cf 6).toNat none) q→¬swO d t [] q):=hJ fun q hq e=>by
  have h1:=HNW.out q hq
  have h2:=HL1.out.sw.lt e
  omega
 clear x1 x2 x3 x4 x5 x6 x7 x8 x9 x10 hma hnew hD0 hb2 c0 c1 c2 c3 c4 c5 c6 c7 c8
 obtain ⟨c0,c1,c2,c3,c4,c5,c6,c7,c8⟩:=cfg_cells HL2.out.bel
 have HAD:=hJ (HL2.out.add (cf:=cf) (pg:=(cf 4).toNat) (rg:=(cf 7).toNat) (ps:=(cf 8).toNat) (by
  obtain ⟨h1,h2,h3,h4⟩:=HG.out
  exact ⟨by simp only;omega,by simp only;omega,by simp only;omega,by simp only;omega,by simp only;omega,by simp only;omega⟩) (by have:=HZN.out.1;have:=HG.out.1;omega) (by simp))
 unfold cfgV at HAD
 go_wp2_with fail
 refine HAD.out.mono ?_
 rintro e w3 ⟨X1,M1,rfl,hl,hn3⟩
 have HL3:=hJ hl
 have hma3:=HMA.out.off hn3.off HSEP.out
 have HMA3:=hJ hma3
 have HSEP3:Hid (∀q,maO D (List.replicate (cf 6).toNat none) q→¬swO d t [⟨⟨X1,M1,d.Q,cf,(cf 4).toNat,(cf 7).toNat,(cf 8).toNat⟩,none,0,[],fun _=>none,0⟩] q):=hJ fun q hq=>(hn3.keep (HMA.out.lt hq) (HSEP.out q hq)).2
 obtain ⟨n,hn⟩:∃n:Nat,cf 6=(n:Nat):=⟨(cf 6).toNat,by have:=HG.out.2.1;omega⟩
 have hnb:1≤n∧n≤64:=by have:=HG.out.2.1;omega
 have hmk:=run_make_el psE rfl rfl n (by omega)
 rw [←hn] at hmk
 simp only [psE] at hmk
 have HNN:=hJ hn
 clear hl hn3 hma3 HAD c0 c1 c2 c3 c4 c5 c6 c7 c8 HMA HSEP HL2 hn
 obtain ⟨c0,c1,c2,c3,c4,c5,c6,c7,c8⟩:=cfg_cells HL3.out.bel
 go_upto_region 8 with (fail)
 go_region_held3 (fun V=>V.cell? ⟨w.heap.size,0,none⟩=some (.int .i64 (cf 0))∧V.cell? ⟨w.heap.size,1,none⟩=some (.int .i64 (cf 1))∧V.cell? ⟨w.heap.size,2,none⟩=some (.int .i64 (cf 2))∧V.cell? ⟨w.heap.size,3,none⟩=some (.int .i64 (cf 3))∧V.cell? ⟨w.heap.size,4,none⟩=some (.int .i64 (cf 4))∧V.cell? ⟨w.heap.size,5,none⟩=some (.int .i64 (cf 5))∧V.cell? ⟨w.heap.size,6,none⟩=some (.int .i64 (cf 6))∧V.cell? ⟨w.heap.size,7,none⟩=some (.int .i64 (cf 7))∧V.cell? ⟨w.heap.size,8,none⟩=some (.int .i64 (cf 8))) (first|exact ⟨c0,c1,c2,c3,c4,c5,c6,c7,c8⟩|go_keep) (fail)
 have HWB:=hJ (wb_new (cf:=cf) (n:=n) (HL3.out.rebase HBX.out) HMA3.out HSEP3.out (fun q hq=>by have h1:=HNW.out q hq;have h2:=HL1.out.bel.size;have h3:=HBX.out.size;omega) (by rw [←HD0.out]) (by rw [←HD0.out];simp only;have:=HNN.out;omega) hnb 53)
 rw [show D.X=X by rw [←HD0.out]] at HWB
 go_upto_region 9 with (fail)
 refine wp_forget (fun V=>WB w V ⟨w3.heap.size+1,S,d,D,some ⟨w3.heap.size,0,none⟩,n⟩ t (fun _=>none) 1990000 [⟨⟨X1,M1,d.Q,cf,(cf 4).toNat,(cf 7).toNat,(cf 8).toNat⟩,none,0,[],fun _=>none,0⟩] (List.replicate (cf 6).toNat none) (List.replicate n none)) (HWB.out.up (by first|exact jB.drew|exact Below.refl _ _)) ?_
 rintro V hV
 have HV:=hJ hV
 obtain ⟨o,ho⟩:∃o:WD,WD.mk (w3.heap.size+1) S d D (some ⟨w3.heap.size,0,none⟩) n=o:=⟨_,rfl⟩
 rw [ho] at HV
 have HO:=hJ ho
 clear hV HWB c0 c1 c2 c3 c4 c5 c6 c7 c8 HL3 HMA3 HSEP3 HL1 HPO HNM hmk
 have hX:X=o.D.X:=by rw [←HO.out,←HD0.out]
 have hW:w3.heap.size+1=o.W:=by rw [←HO.out]
 have hN:n=o.D.n:=by rw [←HO.out,←HD0.out];simp only;have:=HNN.out;omega
 have hNz:(cf 6).toNat=n:=by have:=HNN.out;omega
 rw [hX,hW]
 rw [hNz] at HV
 have HDO:=hJ (do_any HV.out.ma 1 0 0 0 0 [] (fun p hp=>by have:=List.eq_of_mem_replicate hp;cases this) (A:=none) 0 (SBy.nil _ _) (fun g o' h=>by simp at h))
 clear hX hW
 go_upto_region 10 with (go_at_call 70;refine HDO.out.mono ?_;rintro e w4 ⟨P4,h4,h5,hp4,Ad,cd,Ap,cp,he4,_⟩;unfold ansV at he4;obtain rfl:=he4;have HM4:=hJ (And.intro h4 h5);have HP4:=hJ hp4;clear h4 h5 hp4)
 have h4:=HV.out.mach HM4.out.1 HM4.out.2
 have H4:=hJ h4
 obtain ⟨g4,hg4,lg4,hcg4,fg4⟩:=h4.rAt
 have r0:=hcg4 0 none (by rw [List.getElem?_replicate,if_pos (by omega)])
 have f0:=fg4 0
 have c11:=h4.c11
 have lW4:=h4.ltW
 unfold WD.rv at c11
 rw [hg4,←hN] at c11
 have hA:g4=w3.heap.size:=by rw [←HO.out] at hg4;cases hg4;rfl
 simp only [Option.map_none] at r0
 have HS:=hJ (h4.setQ hg4 (by omega) 0 (some X1))
 have hnI:(0:Int)<(n:Int):=by omega
 clear h4 hcg4 fg4 hA HDO
 go_wp2
 go_ret
 have hpl:plP (List.replicate n (none:Option MPr))=List.replicate n none:=by unfold plP;rw [List.map_replicate];rfl
 have hlS:lS (List.replicate n (none:Option Spc))=[]:=lS_rep n
 have hqS:qS (List.replicate n (none:Option Spc))=List.replicate n none:=by unfold qS;rw [List.map_replicate];rfl
 have hWR:WR o.D (fun _=>none) (List.replicate n none) (plP (List.replicate n (none:Option MPr))):=by
  rw [hpl]
  refine ⟨by simp,fun i hi=>?_,fun i p hp=>?_⟩
  · rw [List.getElem?_replicate] at hi ⊢
    split at hi
    · rename_i h;rw [if_pos h]
    · cases hi
  · rw [List.getElem?_replicate] at hp
    split at hp<;>cases hp
 have hOk:(SpD.mk X1 M1 d.Q cf (cf 4).toNat (cf 7).toNat (cf 8).toNat).Ok:=by
  obtain ⟨h1,h2,h3,h4⟩:=HG.out
  exact ⟨by simp only;omega,by simp only;omega,by simp only;omega,by simp only;omega,by simp only;omega,by simp only;omega⟩
 refine ⟨o,t,fun _=>none,_,P4,rfl,WS.new (s':=⟨⟨X1,M1,d.Q,cf,(cf 4).toNat,(cf 7).toNat,(cf 8).toNat⟩,none,0,[],fun _=>none,0⟩) (p':=⟨[],[]⟩) hWR (fun q hq=>?_) (k:=0) ?_ ?_ ?_ (PgRel.new hOk) ?_ ?_ jN,?_,⟨⟨⟨X1,M1,d.Q,cf,(cf 4).toNat,(cf 7).toNat,(cf 8).toNat⟩,none,0,[],fun _=>none,0⟩,?_⟩,?_⟩
 · rw [hpl] at hq
   have:=List.eq_of_mem_replicate hq
   cases this
 · rw [List.getElem?_replicate,if_pos (by omega)]
 · rw [hlS,hqS]
   exact HS.out
 · rw [HP4.out,hpl,doF_make hnb.1]
 · refine ⟨?_,?_,?_,?_⟩<;>(rw [←HO.out,←HD0.out])
 · rw [hlS]
   intro x hx
   cases hx
 · rw [←HO.out];exact HZN.out.2
 · rw [List.getElem?_set,if_pos rfl,if_pos (by rw [List.length_replicate];omega)]
 · rw [←HO.out,←HD0.out]
set_option maxRecDepth 100000
section
variable {w0 w w' w1 w2:World} {o:WD} {t t':PSt ShS} {C C':Cu} {kk k U:Nat} {sp:List (Option Spc)} {P P':List (Option MPr)}
theorem WS.dn (h:WS w0 w o t C kk U sp P):1≤o.D.n∧o.D.n≤64:=by
 have:=h.b.ma.f.good.2.1
 have:=h.b.ma.f.en
 omega
end
set_option maxRecDepth 100000
section
variable {w0 w w' w1 w2:World} {o:WD} {t t':PSt ShS} {C C':Cu} {kk k U:Nat} {sp:List (Option Spc)} {P P':List (Option MPr)} {s:Spc}
end
end Go.Proofs.YtlhfjaagkgengaaGreat
