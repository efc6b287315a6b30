/- almanaclaw16: do. almanaclaw16: step: acts of no kind. almanaclaw16: the document's Do beside the spaces; a fork; an end. almanaclaw16: begun: what is there at the begin. almanaclaw16: ids: how many p -/
import Derived.Test.YtlhfjaagkgengaaGreatPB46
import Derived.Test.YtlhfjaagkgengaaGreatPA03
namespace Go.Proofs.YtlhfjaagkgengaaGreat
open Go.RowKit Go.Maps
set_option linter.unusedVariables false
set_option linter.unusedSimpArgs false
section
variable {w0 w w' w1 w2:World} {o:WD} {t t':PSt ShS} {C C':Cu} {kk k:Nat} {l l':List Spc} {P P':List (Option MPr)} {Q:List (Option Nat)} {s:Spc} {p:PrP}
set_option maxRecDepth 100000 in
set_option maxHeartbeats 4000000 in
theorem do16_map (pid:Int) (at_ n prot:Int) (A:Option Addr) (m c:Nat) (h:WB w0 w o t C kk (s::l) P Q) (hQ:Q[k]? =some (some s.D.X)) (hr:PgRel s C p) (hd:ShOk o.D s):
 Calls Tryz.prog 72 #[.pointer (some ⟨o.W,0,none⟩),.int .i64 (k:Nat),.agg #[.int .i64 2,.int .i64 pid,.int .i64 at_,.int .i64 n,.int .i64 prot,.slice A m c]] w (LdPost16 w0 w t o C kk s l P Q (regP p (mappedF o.D.sd p.R at_ n prot) p.L)):=by
 have hb0:Below w.heap.size w (w.alloc (.cells #[.int .i64 2,.int .i64 pid,.int .i64 at_,.int .i64 n,.int .i64 prot,.slice A m c] 47)):=(Below.refl _ _).alloc (Nat.le_refl _) _
 have hx:=h.up hb0
 have HOF:Hid (∀W (p':PrP),DeR w0 (w.alloc (.cells #[.int .i64 2,.int .i64 pid,.int .i64 at_,.int .i64 n,.int .i64 prot,.slice A m c] 47)) t o C kk s l P Q p' W→DeR w0 w t o C kk s l P Q p' W):=hJ fun W p' ⟨t',C',s',h1,h2,h3,h4,h5⟩=>⟨t',C',s',h1,h2,h3,h4,(Off.of_below hb0).trans h5⟩
 have H:=hJ (hx.map hr hd at_ n prot)
 obtain ⟨r,hR⟩:∃r:PrP×Int×Bytes,(regP p (mappedF o.D.sd p.R at_ n prot) p.L)=r:=⟨_,rfl⟩
 rw [hR] at H ⊢
 clear hR
 obtain ⟨g,hg,lg,hcg,fg⟩:=h.rAt
 have r1:=hcg k _ hQ
 have lQ:=h.lQ
 have hk:k<o.D.n:=by rw [←lQ];exact (List.getElem?_eq_some_iff.1 hQ).1
 have hn64:=h.ma.f.npos
 have lW:=h.ltW
 have c11:=h.c11
 unfold WD.rv at c11
 rw [hg] at c11
 simp only [Option.map_some] at r1
 clear hcg fg h hr hd hQ lQ hx hb0 hg
 go_enter Tryz.func72,Tryz.ntmps72
 go_wp2_with (go_at_call 16;refine H.out.mono ?_;rintro e w1 ⟨rfl,h1,h2⟩;have H1:=hJ h1;have H2:=hJ h2;clear h1 h2)
 go_ret2
 exact ⟨none,0,by rw [H1.out];rfl,by rw [H1.out];exact SBy.nil _ _,HOF.out _ _ H2.out⟩
set_option maxRecDepth 100000 in
set_option maxHeartbeats 4000000 in
theorem do16_unmap (pid:Int) (at_ n prot:Int) (A:Option Addr) (m c:Nat) (h:WB w0 w o t C kk (s::l) P Q) (hQ:Q[k]? =some (some s.D.X)) (hr:PgRel s C p) (hd:ShOk o.D s):
 Calls Tryz.prog 72 #[.pointer (some ⟨o.W,0,none⟩),.int .i64 (k:Nat),.agg #[.int .i64 3,.int .i64 pid,.int .i64 at_,.int .i64 n,.int .i64 prot,.slice A m c]] w (LdPost16 w0 w t o C kk s l P Q (regP p (unmappedF o.D.sd p.R at_ n) (p.L.filter fun q=>keepU at_ n q.1))):=by
 have hb0:Below w.heap.size w (w.alloc (.cells #[.int .i64 3,.int .i64 pid,.int .i64 at_,.int .i64 n,.int .i64 prot,.slice A m c] 47)):=(Below.refl _ _).alloc (Nat.le_refl _) _
 have hx:=h.up hb0
 have HOF:Hid (∀W (p':PrP),DeR w0 (w.alloc (.cells #[.int .i64 3,.int .i64 pid,.int .i64 at_,.int .i64 n,.int .i64 prot,.slice A m c] 47)) t o C kk s l P Q p' W→DeR w0 w t o C kk s l P Q p' W):=hJ fun W p' ⟨t',C',s',h1,h2,h3,h4,h5⟩=>⟨t',C',s',h1,h2,h3,h4,(Off.of_below hb0).trans h5⟩
 have H:=hJ (hx.unmap hr hd at_ n)
 obtain ⟨r,hR⟩:∃r:PrP×Int×Bytes,(regP p (unmappedF o.D.sd p.R at_ n) (p.L.filter fun q=>keepU at_ n q.1))=r:=⟨_,rfl⟩
 rw [hR] at H ⊢
 clear hR
 obtain ⟨g,hg,lg,hcg,fg⟩:=h.rAt
 have r1:=hcg k _ hQ
 have lQ:=h.lQ
 have hk:k<o.D.n:=by rw [←lQ];exact (List.getElem?_eq_some_iff.1 hQ).1
 have hn64:=h.ma.f.npos
 have lW:=h.ltW
 have c11:=h.c11
 unfold WD.rv at c11
 rw [hg] at c11
 simp only [Option.map_some] at r1
 clear hcg fg h hr hd hQ lQ hx hb0 hg
 go_enter Tryz.func72,Tryz.ntmps72
 go_wp2_with (go_at_call 117;refine H.out.mono ?_;rintro e w1 ⟨rfl,h1,h2⟩;have H1:=hJ h1;have H2:=hJ h2;clear h1 h2)
 go_ret2
 exact ⟨none,0,by rw [H1.out];rfl,by rw [H1.out];exact SBy.nil _ _,HOF.out _ _ H2.out⟩
set_option maxRecDepth 100000 in
set_option maxHeartbeats 4000000 in
theorem do16_prot (pid:Int) (at_ n prot:Int) (A:Option Addr) (m c:Nat) (h:WB w0 w o t C kk (s::l) P Q) (hQ:Q[k]? =some (some s.D.X)) (hr:PgRel s C p) (hd:ShOk o.D s):
 Calls Tryz.prog 72 #[.pointer (some ⟨o.W,0,none⟩),.int .i64 (k:Nat),.agg #[.int .i64 4,.int .i64 pid,.int .i64 at_,.int .i64 n,.int .i64 prot,.slice A m c]] w (LdPost16 w0 w t o C kk s l P Q (regP p (protectedF o.D.sd p.R at_ n prot) p.L)):=by
 have hb0:Below w.heap.size w (w.alloc (.cells #[.int .i64 4,.int .i64 pid,.int .i64 at_,.int .i64 n,.int .i64 prot,.slice A m c] 47)):=(Below.refl _ _).alloc (Nat.le_refl _) _
 have hx:=h.up hb0
 have HOF:Hid (∀W (p':PrP),DeR w0 (w.alloc (.cells #[.int .i64 4,.int .i64 pid,.int .i64 at_,.int .i64 n,.int .i64 prot,.slice A m c] 47)) t o C kk s l P Q p' W→DeR w0 w t o C kk s l P Q p' W):=hJ fun W p' ⟨t',C',s',h1,h2,h3,h4,h5⟩=>⟨t',C',s',h1,h2,h3,h4,(Off.of_below hb0).trans h5⟩
 have H:=hJ (hx.prot hr hd at_ n prot)
 obtain ⟨r,hR⟩:∃r:PrP×Int×Bytes,(regP p (protectedF o.D.sd p.R at_ n prot) p.L)=r:=⟨_,rfl⟩
 rw [hR] at H ⊢
 clear hR
 obtain ⟨g,hg,lg,hcg,fg⟩:=h.rAt
 have r1:=hcg k _ hQ
 have lQ:=h.lQ
 have hk:k<o.D.n:=by rw [←lQ];exact (List.getElem?_eq_some_iff.1 hQ).1
 have hn64:=h.ma.f.npos
 have lW:=h.ltW
 have c11:=h.c11
 unfold WD.rv at c11
 rw [hg] at c11
 simp only [Option.map_some] at r1
 clear hcg fg h hr hd hQ lQ hx hb0 hg
 go_enter Tryz.func72,Tryz.ntmps72
 go_wp2_with (go_at_call 118;refine H.out.mono ?_;rintro e w1 ⟨rfl,h1,h2⟩;have H1:=hJ h1;have H2:=hJ h2;clear h1 h2)
 go_ret2
 exact ⟨none,0,by rw [H1.out];rfl,by rw [H1.out];exact SBy.nil _ _,HOF.out _ _ H2.out⟩
set_option maxRecDepth 100000 in
set_option maxHeartbeats 4000000 in
theorem do16_load (pid:Int) (at_ n prot:Int) (A:Option Addr) (m c:Nat) {cst:Nat} (h:WB w0 w o t C (kk+cst) (s::l) P Q) (hQ:Q[k]? =some (some s.D.X)) (hr:PgRel s C p) (hd:ShOk o.D s) (hc:checkF o.D.sd p.R at_ n 1=0→n.toNat≤cst):
 Calls Tryz.prog 72 #[.pointer (some ⟨o.W,0,none⟩),.int .i64 (k:Nat),.agg #[.int .i64 5,.int .i64 pid,.int .i64 at_,.int .i64 n,.int .i64 prot,.slice A m c]] w (LdPost16 w0 w t o C kk s l P Q (p,checkF o.D.sd p.R at_ n 1,if checkF o.D.sd p.R at_ n 1=0 then ldN o.D.sd.pg p.L at_.toNat n.toNat else [])):=by
 have hb0:Below w.heap.size w (w.alloc (.cells #[.int .i64 5,.int .i64 pid,.int .i64 at_,.int .i64 n,.int .i64 prot,.slice A m c] 47)):=(Below.refl _ _).alloc (Nat.le_refl _) _
 have hx:=h.up hb0
 have HOF:Hid (∀W (p':PrP),DeR w0 (w.alloc (.cells #[.int .i64 5,.int .i64 pid,.int .i64 at_,.int .i64 n,.int .i64 prot,.slice A m c] 47)) t o C kk s l P Q p' W→DeR w0 w t o C kk s l P Q p' W):=hJ fun W p' ⟨t',C',s',h1,h2,h3,h4,h5⟩=>⟨t',C',s',h1,h2,h3,h4,(Off.of_below hb0).trans h5⟩
 have H:=hJ (WB.load at_ n hc hx hr hd)
 obtain ⟨r,hR⟩:∃r:PrP×Int×Bytes,(p,checkF o.D.sd p.R at_ n 1,if checkF o.D.sd p.R at_ n 1=0 then ldN o.D.sd.pg p.L at_.toNat n.toNat else [])=r:=⟨_,rfl⟩
 rw [hR] at H ⊢
 clear hR
 obtain ⟨g,hg,lg,hcg,fg⟩:=h.rAt
 have r1:=hcg k _ hQ
 have lQ:=h.lQ
 have hk:k<o.D.n:=by rw [←lQ];exact (List.getElem?_eq_some_iff.1 hQ).1
 have hn64:=h.ma.f.npos
 have lW:=h.ltW
 have c11:=h.c11
 unfold WD.rv at c11
 rw [hg] at c11
 simp only [Option.map_some] at r1
 clear hcg fg h hr hd hQ lQ hx hb0 hg hc
 go_enter Tryz.func72,Tryz.ntmps72
 go_wp2_with (go_at_call 18;refine H.out.mono ?_;rintro e w1 ⟨A',c',rfl,h1,h2⟩;have H1:=hJ h1;have H2:=hJ h2;clear h1 h2)
 go_ret2
 exact ⟨A',c',rfl,H1.out,HOF.out _ _ H2.out⟩
set_option maxRecDepth 100000 in
set_option maxHeartbeats 4000000 in
theorem do16_store (pid:Int) (at_ n prot:Int) {A:Option Addr} (c:Nat) {bs:Bytes} (h:WB w0 w o t C (kk+2*bs.length) (s::l) P Q) (hQ:Q[k]? =some (some s.D.X)) (hr:PgRel s C p) (hd:ShOk o.D s) (hS:SBy w A bs.length bs) (hbc:bs.length≤c) (hbn:bs.length≤9223372036854775807) (hV:VIn (fun g=>g<w.heap.size∧¬Own o.d t g) (.slice A bs.length c)):
 Calls Tryz.prog 72 #[.pointer (some ⟨o.W,0,none⟩),.int .i64 (k:Nat),.agg #[.int .i64 6,.int .i64 pid,.int .i64 at_,.int .i64 n,.int .i64 prot,.slice A bs.length c]] w (LdPost16 w0 w t o C kk s l P Q (if checkF o.D.sd p.R at_ (bs.length:Nat) 2=0 then (⟨p.R,stL o.D.sd.pg p.L at_.toNat bs⟩,0,[]) else (p,checkF o.D.sd p.R at_ (bs.length:Nat) 2,[]))):=by
 have hb0:Below w.heap.size w (w.alloc (.cells #[.int .i64 6,.int .i64 pid,.int .i64 at_,.int .i64 n,.int .i64 prot,.slice A bs.length c] 47)):=(Below.refl _ _).alloc (Nat.le_refl _) _
 have hx:=h.up hb0
 have HOF:Hid (∀W (p':PrP),DeR w0 (w.alloc (.cells #[.int .i64 6,.int .i64 pid,.int .i64 at_,.int .i64 n,.int .i64 prot,.slice A bs.length c] 47)) t o C kk s l P Q p' W→DeR w0 w t o C kk s l P Q p' W):=hJ fun W p' ⟨t',C',s',h1,h2,h3,h4,h5⟩=>⟨t',C',s',h1,h2,h3,h4,(Off.of_below hb0).trans h5⟩
 have H:=hJ (WB.store hx hr hd at_ (hS.up hb0) hbc hbn (hV.mono fun g hg=>⟨Nat.lt_of_lt_of_le hg.1 hb0.size,hg.2⟩))
 obtain ⟨r,hR⟩:∃r:PrP×Int×Bytes,(if checkF o.D.sd p.R at_ (bs.length:Nat) 2=0 then (⟨p.R,stL o.D.sd.pg p.L at_.toNat bs⟩,0,[]) else (p,checkF o.D.sd p.R at_ (bs.length:Nat) 2,[]))=r:=⟨_,rfl⟩
 rw [hR] at H ⊢
 clear hR
 obtain ⟨g,hg,lg,hcg,fg⟩:=h.rAt
 have r1:=hcg k _ hQ
 have lQ:=h.lQ
 have hk:k<o.D.n:=by rw [←lQ];exact (List.getElem?_eq_some_iff.1 hQ).1
 have hn64:=h.ma.f.npos
 have lW:=h.ltW
 have c11:=h.c11
 unfold WD.rv at c11
 rw [hg] at c11
 simp only [Option.map_some] at r1
 clear hcg fg h hr hd hQ lQ hx hb0 hg hS hV
 go_enter Tryz.func72,Tryz.ntmps72
 go_wp2_with (go_at_call 17;refine H.out.mono ?_;rintro e w1 ⟨rfl,h1,h2⟩;have H1:=hJ h1;have H2:=hJ h2;clear h1 h2)
 go_ret2
 exact ⟨none,0,by rw [H1.out];rfl,by rw [H1.out];exact SBy.nil _ _,HOF.out _ _ H2.out⟩
end
def StR16 (w0:World) (o:WD) (kk U:Nat) (sp:List (Option Spc)) (w':World):Prop:=
 ∃t' C' sp' P',WS w0 w' o t' C' kk U sp' P'∧((∃s,sp[0]? =some (some s))→∃s,sp'[0]? =some (some s))
def StPost16 (w0:World) (o:WD) (kk U:Nat) (sp:List (Option Spc)) (e:Ending) (w':World):Prop:=e=.returned (.bool true)∧StR16 w0 o kk U sp w'
theorem WS.up {w0 w w':World} {o:WD} {t:PSt ShS} {C:Cu} {kk U:Nat} {sp:List (Option Spc)} {P:List (Option MPr)} (h:WS w0 w o t C kk U sp P) (hb:Below w.heap.size w w'):WS w0 w' o t C kk U sp P:=⟨h.b.up hb,h.r,h.few⟩
theorem WS.less {w0 w:World} {o:WD} {t:PSt ShS} {C:Cu} {kk kk' U U':Nat} {sp:List (Option Spc)} {P:List (Option MPr)} (h:WS w0 w o t C kk U sp P) (hk:kk'≤kk) (hu:U≤U'):WS w0 w o t C kk' U' sp P:=⟨h.b.less hk,h.r,fun p hp=>Nat.le_trans (h.few p hp) hu⟩
theorem WS.str {w0 w:World} {o:WD} {t:PSt ShS} {C:Cu} {kk kk' U U':Nat} {sp:List (Option Spc)} {P:List (Option MPr)} (h:WS w0 w o t C kk U sp P) (hk:kk'≤kk) (hu:U≤U'):StR16 w0 o kk' U' sp w:=⟨t,C,sp,P,h.less hk hu,id⟩
theorem WS.len {w0 w:World} {o:WD} {t:PSt ShS} {C:Cu} {kk U:Nat} {sp:List (Option Spc)} {P:List (Option MPr)} (h:WS w0 w o t C kk U sp P):sp.length=o.D.n:=by
 have:=h.b.lQ
 unfold qS at this
 simpa using this
structure AcAt (w:World) (b:Nat) (sp kind pid at_ n prot:Int) (d:Value):Prop where
 c0:w.cell? ⟨b,0,none⟩=some (.int .i64 sp)
 c1:w.cell? ⟨b,1,none⟩=some (.int .i64 kind)
 c2:w.cell? ⟨b,2,none⟩=some (.int .i64 pid)
 c3:w.cell? ⟨b,3,none⟩=some (.int .i64 at_)
 c4:w.cell? ⟨b,4,none⟩=some (.int .i64 n)
 c5:w.cell? ⟨b,5,none⟩=some (.int .i64 prot)
 c6:w.cell? ⟨b,6,none⟩=some d
theorem AcAt.new (w:World) (sp kind pid at_ n prot:Int) (d:Value) (T:TypeId):AcAt (w.alloc (.cells #[.int .i64 sp,.int .i64 kind,.int .i64 pid,.int .i64 at_,.int .i64 n,.int .i64 prot,d] T)) w.heap.size sp kind pid at_ n prot d:=by
 have hn:=heap_alloc_new w (.cells #[.int .i64 sp,.int .i64 kind,.int .i64 pid,.int .i64 at_,.int .i64 n,.int .i64 prot,d] T)
 have hc:∀i v,(#[.int .i64 sp,.int .i64 kind,.int .i64 pid,.int .i64 at_,.int .i64 n,.int .i64 prot,d]:Array Value)[i]? =some v→(w.alloc (.cells #[.int .i64 sp,.int .i64 kind,.int .i64 pid,.int .i64 at_,.int .i64 n,.int .i64 prot,d] T)).cell? ⟨w.heap.size,i,none⟩=some v:=fun i v hv=>by
  rw [cell_of_row _ _ _ _ _ _ hn];exact hv
 exact ⟨hc 0 _ rfl,hc 1 _ rfl,hc 2 _ rfl,hc 3 _ rfl,hc 4 _ rfl,hc 5 _ rfl,hc 6 _ rfl⟩
section
variable {w0 w w' w1 w2:World} {o:WD} {t t':PSt ShS} {C C':Cu} {kk k U:Nat} {sp:List (Option Spc)} {P P':List (Option MPr)}
theorem WS.evict {cst:Nat} (h:WS w0 w o t C (kk+(o.d.n+1)) U sp P) (n:Int) (hU:U≤cst):Calls Tryz.prog 47 #[.pointer (some ⟨o.d.Q,0,none⟩),.int .i64 n] w fun e w'=>∃v:Int,e=.returned (.int .i64 v)∧StPost16 w0 o kk cst sp (.returned (.bool true)) w':=by
 refine (h.b.lw.sw.evict (k:=kk) shK_good shP_miss n).mono ?_
 rintro e w' ⟨v,rfl,t',h1,h2,_,_⟩
 have hb:=h.b.less (k':=kk) (by omega)
 exact ⟨v,rfl,rfl,t',C,sp,P,⟨hb.sw (hb.lw.go h1 h2) h2,h.r,fun p hp=>Nat.le_trans (h.few p hp) hU⟩,id⟩
end
theorem op7_right (k:Int):(OpP.mk 7 k 0 0 0 []).right=true:=by
 unfold OpP.right right9
 simp
theorem op8_right (k:Int):(OpP.mk 8 k 0 0 0 []).right=true:=by
 unfold OpP.right right9
 simp
theorem free_first:∀{P:MaP},¬fullB P=true→P[firstN P]? =some none
 |[],h=>absurd rfl h
 |none::P,_=>rfl
 | some p::P,h=>by
   have ih:=free_first (P:=P) (fun e=>h (by unfold fullB at *;rw [List.all_cons,e];rfl))
   have e:firstN (some p::P)=firstN P+1:=by
    unfold firstN
    rw [List.takeWhile_cons]
    simp
   rw [e]
   simpa using ih
theorem stL_len (z:Nat):∀(bs:Bytes) (a:Nat) (L:PgL),(stL z L a bs).length≤L.length+bs.length
 |[],_,_=>Nat.le_refl _
 | b::bs,a,L=>by
   unfold stL
   have h1:=stL_len z bs (a+1) (stB z L a b)
   have h2:=stB_len z a b L
   rw [List.length_cons]
   omega
theorem opP_len (S:SpD) (p:PrP) (o:OpP):(opP S p o).1.L.length≤p.L.length+o.data.length:=by
 have h3:=List.length_filter_le (fun q:Nat×Bytes=>keepU o.at_ o.n q.1) p.L
 have h6:=stL_len S.pg o.data o.at_.toNat p.L
 unfold opP regP
 repeat' split
 all_goals (simp only;omega)
theorem load_few {S:SpD} {R:List Rg} {a n:Int} (h:¬(8192<n∧n≤1048576)) (hz:checkF S R a n 1=0):n.toNat≤8192:=by
 unfold checkF at hz
 split at hz
 · cases hz
 · omega
theorem SBy.low {w0 w V:World} {A:Option Addr} {n:Nat} {L:Bytes} (h:SBy w A n L) (hA:∀g o,0<n→A=some ⟨g,o,none⟩→g<w0.heap.size) (h1:Below w0.heap.size w0 w) (h2:Below w0.heap.size w0 V):SBy V A n L:=⟨h.1,fun hp=>by
 obtain ⟨b,o,rfl,hb,hc⟩:=h.2 hp
 have hl:=hA b o hp rfl
 refine ⟨b,o,rfl,Nat.lt_of_lt_of_le hl h2.size,fun k hk=>?_⟩
 rw [h2.cell (p:=⟨b,o+k,none⟩) hl,←h1.cell (p:=⟨b,o+k,none⟩) hl]
 exact hc k hk⟩
section
variable {S:SpD} {P:MaP} {k:Nat} {p:PrP}
theorem get_at (hp:P[k]? =some (some p)):getP P (k:Nat)=some p:=by
 unfold getP
 rw [if_pos (by omega),Int.toNat_natCast,hp]
 rfl
theorem doF_fork (hp:P[k]? =some (some p)):doF S P ⟨7,(k:Nat),0,0,0,[]⟩=if fullB P=true then (P,⟨5,0,[],[]⟩) else (P.set (firstN P) (some p),⟨0,(firstN P:Nat),[],[]⟩):=by
 have hc:chkF S P ⟨7,(k:Nat),0,0,0,[]⟩=if fullB P=true then 5 else 0:=by
  unfold chkF
  rw [if_neg (by rw [op7_right];simp)]
  simp only [get_at hp]
  simp
 unfold doF
 rw [hc]
 simp only [get_at hp]
 by_cases hf:fullB P=true
 · simp [hf]
 · simp [hf,doPr]
theorem doF_exit (hp:P[k]? =some (some p)):doF S P ⟨8,(k:Nat),0,0,0,[]⟩=(P.set k none,⟨0,0,[],[]⟩):=by
 have hc:chkF S P ⟨8,(k:Nat),0,0,0,[]⟩=0:=by
  unfold chkF
  rw [if_neg (by rw [op8_right];simp)]
  simp only [get_at hp]
  simp
 unfold doF
 rw [hc]
 simp only [get_at hp]
 simp [doPr]
end
section
variable {w0 w w' w1 w2:World} {o:WD} {t t':PSt ShS} {C C':Cu} {kk k U:Nat} {sp:List (Option Spc)} {P P':List (Option MPr)} {s s':Spc} {p p':PrP}
theorem plP_mem {q:MPr} (h:some q∈P):some q.pl∈plP P:=by
 unfold plP
 exact List.mem_map.2 ⟨_,h,rfl⟩
theorem plP_get {q:PrP} (h:(plP P)[k]? =some (some q)):∃p5:MPr,P[k]? =some (some p5)∧p5.pl=q:=by
 unfold plP at h
 rw [List.getElem?_map] at h
 cases hp:P[k]? with
 |none=>rw [hp] at h;cases h
 | some x=>
   rw [hp] at h
   cases x with
   |none=>cases h
   | some y=>
     simp only [Option.map_some] at h
     exact ⟨y,rfl,by injection h with h;injection h⟩
theorem WS.rs (h:WS w0 w o t C kk U sp P):∀q,some q∈P→rightL o.D.ps q.R=true∧q.R.length≤1000∧q.L.length≤U:=by
 intro q hq
 obtain ⟨i,hi⟩:=List.mem_iff_getElem?.1 (plP_mem hq)
 obtain ⟨s,hs,hr,hd⟩:=h.r.held i q.pl hi
 have h1:=hr.rg.right
 have h2:=hr.rg.len
 rw [hr.R,hd.2.2.2] at h1
 rw [hr.R,hd.2.2.1] at h2
 have hb:=h.b.ma.f.sok.b7
 change 1≤o.D.rg∧o.D.rg≤32 at hb
 have h3:=h.few _ (plP_mem hq)
 have e:q.pl.L.length=q.L.length:=by unfold MPr.pl;simp
 have e2:q.pl.R.length=q.R.length:=rfl
 exact ⟨h1,by omega,by omega⟩
def DoB (w0 w:World) (o:WD) (t:PSt ShS) (C:Cu) (kk:Nat) (sp:List (Option Spc)) (P:List (Option MPr)) (op:OpP) (e:Ending) (w':World):Prop:=
 ∃P',WB w0 w' o t C kk (lS sp) P' (qS sp)∧plP P'=(doF o.D.sd (plP P) op).1∧AnsAt w w' (doF o.D.sd (plP P) op).2 e∧Off (maO o.D P) w w'∧∀q,maO o.D P' q→maO o.D P q∨w.heap.size≤q
theorem WS.do (h:WS w0 w o t C kk U sp P) (kind pid at_ n prot:Int) {data:Bytes} {A:Option Addr} (c:Nat) (hU:U+data.length≤100000) (hS:SBy w A data.length data) (hA:∀g o',0<data.length→A=some ⟨g,o',none⟩→g<w0.heap.size):
 Calls Tryz.prog 70 #[.pointer (some ⟨o.D.X,0,none⟩),.agg #[.int .i64 kind,.int .i64 pid,.int .i64 at_,.int .i64 n,.int .i64 prot,.slice A data.length c]] w (DoB w0 w o t C kk sp P ⟨kind,pid,at_,n,prot,data⟩):=by
 refine (do_any h.b.ma kind pid at_ n prot data (fun q hq=>by have:=h.rs q hq;exact ⟨this.1,this.2.1,by omega⟩) c hS (fun g o' hp e hm=>by have:=hA g o' hp e;have:=h.b.new g (.inl hm);omega)).mono ?_
 rintro e w' ⟨P',h1,h2,h3,h4⟩
 exact ⟨P',h.b.mach h1 h2,h3,h4,h2.off,h2.own⟩
theorem WB.off {l:List Spc} {Q:List (Option Nat)} {T:Nat→Prop} (h:WB w0 w o t C kk l P Q) (ho:Off T w w') (h1:∀b,T b→¬wO o t l P b) (h2:∀b,T b→w0.heap.size≤b):WB w0 w' o t C kk l P Q:=by
 have lW:=h.ltW
 have nW:¬T o.W:=fun e=>h1 _ e (.inr (.inr (.inl rfl)))
 exact ⟨h.lw.off ho (fun q hq e=>h1 q hq (.inl e)) h2,h.ma.off ho fun q hq e=>h1 q e (.inr (.inl hq)),h.row.off ho fun q e e2=>h1 q e2 (.inr (.inr (.inr e))),h.lQ,fun i hi=>(ho.cell (p:=⟨o.W,i,none⟩) lW nW).trans (h.cc i hi),(ho.cell (p:=⟨o.W,9,none⟩) lW nW).trans h.c9,(ho.cell (p:=⟨o.W,10,none⟩) lW nW).trans h.c10,(ho.cell (p:=⟨o.W,11,none⟩) lW nW).trans h.c11,h.neW,h.s1,h.s2,h.new⟩
theorem WS.head (h:WS w0 w o t C kk U sp P) (hk:sp[k]? =some (some s)):WB w0 w o t C kk (s::lS (sp.set k none)) P (qS sp):=h.b.perm (lS_out hk)
theorem WS.qn (h:WS w0 w o t C kk U sp P) (hk:sp[k]? =some (some s)):s.n≤U:=by
 obtain ⟨p,hp,hr,_⟩:=h.r.at_ hk
 have:=hr.cnt (h.b.lw.sw.ss s (lS_mem.2 (List.mem_of_getElem? hk))).sp
 have:=h.few p (List.mem_of_getElem? hp)
 omega
theorem WS.put {U':Nat} (hr:WR o.D C sp (plP P)) (hf:∀q,some q∈plP P→q.L.length≤U) (hk:sp[k]? =some (some s)) (hb:WB w0 w' o t' C' kk (s'::lS (sp.set k none)) P' (qS sp)) (hX:s'.D=s.D) (hP:plP P'=(plP P).set k (some p')) (h1:PgRel s' C' p') (h2:ShOk o.D s) (hm:∀x∈lS (sp.set k none),x.mem C'=x.mem C) (hU:U≤U') (hp:p'.L.length≤U'):
 WS w0 w' o t' C' kk U' (sp.set k (some s')) P':=by
 have hkl:=(List.getElem?_eq_some_iff.1 hk).1
 refine ⟨?_,?_,fun q hq=>?_⟩
 · rw [qS_same hk (by rw [hX])]
   exact hb.perm (lS_in hkl).symm
 · rw [hP]
   exact hr.put hkl h1 (by unfold ShOk at *;rw [hX];exact h2) hm
 · rw [hP] at hq
   rcases set_mem hq with e|⟨i,_,hi⟩
   · cases e;exact hp
   · exact Nat.le_trans (hf q (List.mem_of_getElem? hi)) hU
theorem put_first (h0:∃s,sp[0]? =some (some s)):∃s,(sp.set k (some s'))[0]? =some (some s):=by
 obtain ⟨s,hs⟩:=h0
 rw [List.getElem?_set]
 by_cases e:k=0
 · rw [if_pos e,e,if_pos (List.getElem?_eq_some_iff.1 hs).1]
   exact ⟨_,rfl⟩
 · rw [if_neg e]
   exact ⟨s,hs⟩
def FkB (w0 w:World) (o:WD) (t:PSt ShS) (C:Cu) (kk:Nat) (s:Spc) (l:List Spc) (P:List (Option MPr)) (Q:List (Option Nat)) (e:Ending) (w':World):Prop:=
 ∃X Mm A' cap' t',e=.returned (.pointer (some ⟨X,0,none⟩))∧WB w0 w' o t' (kpC C s.m) kk (⟨⟨X,Mm,o.d.Q,s.D.cf,s.D.pg,s.D.rg,s.D.ps⟩,A',cap',s.L,s.m,s.n⟩::s::l) P Q∧(∀x∈s::l,x.mem (kpC C s.m)=x.mem C)∧Off (swO o.d t (s::l)) w w'
theorem WB.fork {l:List Spc} {Q:List (Option Nat)} (h:WB w0 w o t C kk (s::l) P Q) (hr:RgOk s) (hn:s.n≤100000) (hl:l.length<900):
 Calls Tryz.prog 32 #[.pointer (some ⟨s.D.X,0,none⟩)] w (FkB w0 w o t C kk s l P Q):=by
 refine (h.lw.sw.fork hr hn hl).mono ?_
 rintro e w' ⟨X,Mm,A',cap',t',he,h1,h2,_,h3⟩
 exact ⟨X,Mm,A',cap',t',he,h.sw (h.lw.go h1 h2) h2,h3,h2.off⟩
theorem WS.new (hr:WR o.D C sp (plP P)) (hf:∀q,some q∈plP P→q.L.length≤U) (hk:sp[k]? =some none) (hb:WB w0 w' o t' C' kk (s'::lS sp) P' ((qS sp).set k (some s'.D.X))) (hP:plP P'=(plP P).set k (some p')) (h1:PgRel s' C' p') (h2:ShOk o.D s') (hm:∀x∈lS sp,x.mem C'=x.mem C) (hp:p'.L.length≤U):
 WS w0 w' o t' C' kk U (sp.set k (some s')) P':=by
 have hkl:=(List.getElem?_eq_some_iff.1 hk).1
 have e:=lS_none hk
 refine ⟨?_,?_,fun q hq=>?_⟩
 · rw [qS_set]
   have hp:=lS_in (s:=s') hkl
   rw [e] at hp
   exact hb.perm hp.symm
 · rw [hP]
   exact hr.put hkl h1 h2 (by rw [e];exact hm)
 · rw [hP] at hq
   rcases set_mem hq with e|⟨i,_,hi⟩
   · cases e;exact hp
   · exact hf q (List.mem_of_getElem? hi)
def ClB (w0 w:World) (o:WD) (t:PSt ShS) (C:Cu) (kk:Nat) (s:Spc) (l:List Spc) (P:List (Option MPr)) (Q:List (Option Nat)) (e:Ending) (w':World):Prop:=
 e=.returned (.tuple #[])∧∃t' C',WB w0 w' o t' C' kk l P Q∧(∀x∈l,x.mem C'=x.mem C)∧SpAt w' s.D none 0 [] (fun _=>none) 0∧Off (swO o.d t (s::l)) w w'
theorem WB.close {l:List Spc} {Q:List (Option Nat)} (h:WB w0 w o t C kk (s::l) P Q):
 Calls Tryz.prog 33 #[.pointer (some ⟨s.D.X,0,none⟩)] w (ClB w0 w o t C kk s l P Q):=by
 refine h.lw.sw.close.mono ?_
 rintro e w' ⟨he,t',C',h1,h2,_,h3,h4,_⟩
 exact ⟨he,t',C',h.sw (h.lw.go h1 h2) h2,h3,h4.sp,h2.off⟩
theorem WS.del (hr:WR o.D C sp (plP P)) (hf:∀q,some q∈plP P→q.L.length≤U) (hb:WB w0 w' o t' C' kk (lS (sp.set k none)) P' ((qS sp).set k none)) (hP:plP P'=(plP P).set k none) (hm:∀x∈lS (sp.set k none),x.mem C'=x.mem C):
 WS w0 w' o t' C' kk U (sp.set k none) P':=by
 refine ⟨?_,?_,fun q hq=>?_⟩
 · rw [qS_set]
   exact hb
 · rw [hP]
   exact hr.del hm
 · rw [hP] at hq
   rcases set_mem hq with e|⟨i,_,hi⟩
   · cases e
   · exact hf q (List.mem_of_getElem? hi)
end
theorem nm_ma {w w':World} {cf:Nat→Int} {X S B Q:Nat} (hg:GoodC cf) (hc:∀i,i<9→w'.cell? ⟨X,i,none⟩=some (.int .i64 (cf i)))
 (h9:w'.cell? ⟨X,9,none⟩=some (.pointer (some ⟨S,0,none⟩))) (h10:w'.cell? ⟨X,10,none⟩=some (.slice (some ⟨Q,0,none⟩) (cf 6).toNat (cf 6).toNat))
 (hs:w'.cell? ⟨S,0,none⟩=some (.slice (some ⟨B,0,none⟩) (cf 6).toNat (cf 6).toNat))
 (hb:OwE boE w.heap.size w' (.slice (some ⟨B,0,none⟩) (cf 6).toNat (cf 6).toNat) (List.replicate (cf 6).toNat false))
 (hq:OwE prE w.heap.size w' (.slice (some ⟨Q,0,none⟩) (cf 6).toNat (cf 6).toNat) (List.replicate (cf 6).toNat none))
 (hl:w.heap.size≤S∧w.heap.size≤B∧w.heap.size≤Q∧w.heap.size≤X) (n1:S≠B) (n2:B≠Q∧S≠Q) (n3:X≠B∧X≠S∧X≠Q):
 MaAt w' ⟨X,S,some ⟨B,0,none⟩,(cf 6).toNat,some ⟨Q,0,none⟩,(cf 6).toNat,cf,(cf 4).toNat,(cf 6).toNat,(cf 7).toNat,(cf 8).toNat⟩ (List.replicate (cf 6).toNat none)∧
  ∀q,maO ⟨X,S,some ⟨B,0,none⟩,(cf 6).toNat,some ⟨Q,0,none⟩,(cf 6).toNat,cf,(cf 4).toNat,(cf 6).toNat,(cf 7).toNat,(cf 8).toNat⟩ (List.replicate (cf 6).toNat none) q→w.heap.size≤q:=by
 obtain ⟨g1,g2,g3,g4⟩:=id hg
 have hno:∀p:MPr,¬some p∈List.replicate (cf 6).toNat (none:Option MPr):=fun p hp=>by
  have:=List.eq_of_mem_replicate hp
  cases this
 refine ⟨⟨⟨hc,h9,h10,hs,?_,?_,by simp,by simp,hg,by simp only;omega,by simp only;omega,by simp only;omega,by simp only;omega,fun q e=>?_,fun q e=>?_⟩,fun p hp=>absurd hp (hno p),fun i j p q hi=>absurd (List.mem_of_getElem? hi) (hno p),fun p hp=>absurd hp (hno p)⟩,fun q hq=>?_⟩
 · rw [List.map_replicate]
   exact hb.mono (Nat.zero_le _)
 · rw [List.map_replicate]
   exact hq.mono (Nat.zero_le _)
 · have e2:B=q:=by unfold MaD.bv at e;simpa [Value.ownBlock] using e
   subst e2
   exact ⟨fun e=>n3.1 e.symm,fun e=>n1 e.symm⟩
 · have e2:Q=q:=by unfold MaD.qv at e;simpa [Value.ownBlock] using e
   subst e2
   exact ⟨fun e=>n3.2.2 e.symm,fun e=>n2.2 e.symm⟩
 · rcases hq with (e|e|e|e)|⟨p,hp,_⟩
   · rw [e];exact hl.2.2.2
   · rw [e];exact hl.1
   · have e2:B=q:=by unfold MaD.bv at e;simpa [Value.ownBlock] using e
     rw [←e2];exact hl.2.1
   · have e2:Q=q:=by unfold MaD.qv at e;simpa [Value.ownBlock] using e
     rw [←e2];exact hl.2.2.1
   · exact absurd hp (hno p)
theorem ks_gen {k:TypeId} {w:World} {b c:Nat} {f:Value→Option Value} (h:MapIs Tryz.prog k w b f c) (hf:∀v x,f v=some x→∃i,v=.int .i64 i):∃ks:List Int,ks.Nodup∧(∀i,i∈ks ↔ (f (.int .i64 i)).isSome=true)∧ks.length=c:=by
 obtain ⟨es,clock,_,hst,hc,_,h1,h2⟩:=h
 have hint:∀x∈es.toList,∃i,x.key=.int .i64 i∧(f (.int .i64 i)).isSome=true:=fun x hx=>by
  have:=h1 x hx
  obtain ⟨i,hi⟩:=hf _ _ this
  exact ⟨i,hi,by rw [←hi,this];rfl⟩
 refine ⟨es.toList.map fun x=>(intOfV x.key).getD 0,?_,fun i=>?_,by rw [List.length_map];simpa using hc⟩
 · have hk:=hst.2.2
   rw [List.Nodup,List.pairwise_map] at hk ⊢
   refine (List.Pairwise.and_mem.1 hk).imp ?_
   rintro a b ⟨ha,hb,hab⟩ e
   obtain ⟨i,hi,_⟩:=hint a ha
   obtain ⟨j,hj,_⟩:=hint b hb
   rw [hi,hj] at e hab
   have e':i=j:=e
   rw [e'] at hab
   exact hab rfl
 · rw [List.mem_map]
   constructor
   · rintro ⟨x,hx,e⟩
     obtain ⟨j,hj,hs⟩:=hint x hx
     rw [hj] at e
     have e':j=i:=e
     rw [←e']
     exact hs
   · intro hs
     cases hm:f (.int .i64 i) with
     |none=>rw [hm] at hs;cases hs
     | some j=>
       obtain ⟨x,hx,e⟩:=h2 (.int .i64 i) j hm
       exact ⟨x,hx,by rw [e];rfl⟩
theorem cnt_gen {k k':TypeId} {w w':World} {b b' c c':Nat} {f f':Value→Option Value} (h:MapIs Tryz.prog k w b f c) (h':MapIs Tryz.prog k' w' b' f' c') (hf:∀v x,f v=some x→∃i,v=.int .i64 i) (hf':∀v x,f' v=some x→∃i,v=.int .i64 i)
 (hd:∀i:Int,(f (.int .i64 i)).isSome=true ↔ (f' (.int .i64 i)).isSome=true):c=c':=by
 obtain ⟨ks,h1,h2,h3⟩:=ks_gen h hf
 obtain ⟨ks',g1,g2,g3⟩:=ks_gen h' hf'
 rw [←h3,←g3]
 exact ((List.perm_ext_iff_of_nodup h1 g1).2 fun i=>by rw [h2,g2,hd]).length_eq
theorem pgF_int (m:Int→Option Pg) (v x:Value) (h:pgF m v=some x):∃i,v=.int .i64 i:=by
 unfold pgF at h
 cases hi:intOfV v with
 |none=>rw [hi] at h;cases h
 |some i=>exact ⟨i,intOfV_inv hi⟩
theorem cntI_mem {ms:List Pm} {id:Int} (h:0<cntI ms id):∃m∈ms,hasI m id:=by
 unfold cntI at h
 rw [List.countP_pos_iff] at h
 obtain ⟨m,hm,e⟩:=h
 exact ⟨m,hm,@of_decide_eq_true _ (Classical.propDecidable _) e⟩
section
variable {σ:Type} {K:SnkF σ} {M:Snk K} {P:PSnk K} {w w':World} {d:PD} {t:PSt σ} {C:Cu} {k:Nat} {l:List Spc}
theorem SW.dom (h:SW M P w d t C k l) (id:Int):(t.pm id).isSome=true ↔ ∃s∈l,hasI s.m id:=by
 have hd:=h.pv.dom id
 have hu:=h.us id
 constructor
 · intro hp
   cases hc:C id with
   |none=>rw [hd hc] at hp;cases hp
   | some q=>
     have:=h.us.got hc (b:=q.1) (u:=q.2)
     obtain ⟨m,hm,hi⟩:=cntI_mem this.2
     obtain ⟨s,hs,rfl⟩:=List.mem_map.1 hm
     exact ⟨s,hs,hi⟩
 · rintro ⟨s,hs,hi⟩
   obtain ⟨q,hq,_⟩:=h.us.has (cntI_pos (List.mem_map.2 ⟨s,hs,rfl⟩) hi)
   obtain ⟨x,hx,_⟩:=h.pv.con id q.1 q.2 hq
   rw [hx];rfl
end
end Go.Proofs.YtlhfjaagkgengaaGreat
