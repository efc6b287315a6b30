/- region: the sort of joined. region: joined. region: Unmap, Protect. -/
import Derived.Test.YtlhfjaagkgengaaGreatPC13
import Derived.Sort.Grow
import Derived.Lib.SliceRun
import Derived.Shelf.SlSortCmp.NoneTotal
import Derived.Shelf.Lay
import Derived.Ground.SlsfProg
import Derived.Laws.OwnMore
import Derived.BigQuiet
namespace Go.Proofs
open Go.Shelf
shelf_lay_g SlLaysF0.n6 Slsf 6 at Tryz 169 as Tryz.sortG
end Go.Proofs
namespace Go.Proofs.YtlhfjaagkgengaaGreat
set_option maxRecDepth 100000
set_option maxHeartbeats 8000000
open Go.Shelf Go.RowKit Go.Lib Go.Sort
set_option linter.unusedVariables false
set_option linter.unusedSimpArgs false
def GrW (W w':World):Prop:=∃q os',w'=grow (W.drewN q) os'
theorem GrW.refl (W:World):GrW W W:=⟨0,#[],by rw [grow_empty];rfl⟩
theorem GrW.alloc {W w':World} (h:GrW W w') (o:Obj):GrW W (w'.alloc o):=by
 obtain ⟨q,os,rfl⟩:=h
 exact ⟨q,os ++ #[o],by rw [alloc_eq_grow,grow_grow]⟩
theorem subG_any (x y:Rg) (W:World) (hw:IntKind.i64.wrap (x.lo-y.lo)=x.lo-y.lo):Calls Tryz.prog 170 #[.agg x.cells.toArray,.agg y.cells.toArray] W fun e w'=>e=.returned (.int .i64 (x.lo-y.lo))∧GrW W w':=by
 obtain ⟨xa,xb,xp⟩:=x
 obtain ⟨ya,yb,yp⟩:=y
 have HG:Hid (GrW W ((W.alloc (.cells #[.int .i64 xa,.int .i64 xb,.int .i64 xp] 62)).alloc (.cells #[.int .i64 ya,.int .i64 yb,.int .i64 yp] 62))):=hJ (((GrW.refl W).alloc _).alloc _)
 simp only at hw
 simp only [Rg.cells,List.toArray]
 go_enter Tryz.func170,Tryz.ntmps170
 go_upto_region 1 with (fail)
 refine wp_forget (fun V=>GrW W V∧Rg3 V W.heap.size xa xb xp∧Rg3 V (W.heap.size+1) ya yb yp) ?_ ?_
 · have g1:=Rg3.new W xa xb xp 62
   have s1:(W.alloc (.cells #[.int .i64 xa,.int .i64 xb,.int .i64 xp] 62)).heap.size=W.heap.size+1:=by simp
   refine ⟨HG.out,?_⟩
   generalize W.alloc (.cells #[.int .i64 xa,.int .i64 xb,.int .i64 xp] 62)=W1 at *
   have b2:Below W1.heap.size W1 (W1.alloc (.cells #[.int .i64 ya,.int .i64 yb,.int .i64 yp] 62)):=jB.alloc jN _
   have g2:=Rg3.new W1 ya yb yp 62
   rw [s1] at g2
   exact ⟨g1.up b2,g2⟩
 rintro V ⟨hg,k1,k2⟩
 have HG2:=hJ hg
 have a0:=k1.c0
 have b0:=k2.c0
 have la:=lt_of_cell a0
 have lb:=lt_of_cell b0
 clear hg k1 k2 HG
 go_wp2
 go_ret
 exact ⟨rfl,HG2.out⟩
structure RgDist (L:List Rg):Prop where
 in_:∀x∈L,0≤x.lo∧x.lo≤1073741824
 dist:∀x∈L,∀y∈L,x.lo=y.lo→x=y
def leG (x y:Rg):Bool:=decide (x.lo≤y.lo)
def sortG (L:List Rg):List Rg:=L.mergeSort leG
abbrev SubG (L:List Rg):={x:Rg // x∈L}
def ordG {L:List Rg} (x y:SubG L):Int:=x.1.lo-y.1.lo
def encG {L:List Rg} (x:SubG L):List Value:=x.1.cells
theorem lt_ordG {L:List Rg} (x y:SubG L):ltOf ordG x y=decide (x.1.lo<y.1.lo):=by
 unfold ltOf ordG
 by_cases h:x.1.lo<y.1.lo
 · rw [decide_eq_true h];exact decide_eq_true (by omega)
 · rw [decide_eq_false h];exact decide_eq_false (by omega)
theorem swoG {L:List Rg}:SWO (ltOf (ordG (L:=L))) where
 irrefl x:=by rw [lt_ordG];simp
 trans x y z h1 h2:=by rw [lt_ordG] at *;simp at *;omega
 ntrans x y z h1 h2:=by rw [lt_ordG] at *;simp at *;omega
theorem totG {L:List Rg} (hL:RgDist L) (x y:SubG L) (h1:ltOf ordG x y=false) (h2:ltOf ordG y x=false):x=y:=by
 rw [lt_ordG] at *
 simp at *
 exact Subtype.ext (hL.dist x.1 x.2 y.1 y.2 (by omega))
theorem cmpG {L:List Rg} [Inhabited (SubG L)] (hL:RgDist L) (blk off size:Nat) (w:World):CmpLays Tryz.prog 170 #[] (encG (L:=L)) 3 ordG blk off size w:=
 fun _ _ _ _ x y=>subG_any x.1 y.1 _ (by have h1:=hL.in_ _ x.2;have h2:=hL.in_ _ y.2;rw [IntWalk.i64_in _ (by omega)])
theorem map_sortG {L:List Rg} (d:List (SubG L)):(d.mergeSort fun x y=>!(ltOf ordG) y x).map (·.1)=sortG (d.map (·.1)):=by
 unfold sortG
 refine List.map_mergeSort fun a _ b _=>?_
 rw [lt_ordG]
 unfold leG
 by_cases h:a.1.lo≤b.1.lo
 · rw [decide_eq_true h,decide_eq_false (by omega)];rfl
 · rw [decide_eq_false h,decide_eq_true (by omega)];rfl
theorem off_putRow (w:World) (G o:Nat) (F:Array Value):Off (· =G) w (putRow id w G o F):=by
 unfold putRow mapBlock
 exact ⟨rfl,rfl,rfl,by simp,fun k hk hn=>by simp [Array.getElem?_modify,Ne.symm hn]⟩
theorem off_grow (w:World) (os:Array Obj):Off (fun _=>False) w (grow w os):=⟨rfl,rfl,rfl,by simp [grow],fun k hk _=>by simp [grow,Array.getElem?_append,hk]⟩
theorem sortG_none (w:World) (A:Option Addr) (c:Nat):Calls Tryz.prog 169 #[.slice A 0 c,.func (.func 170) #[] #[]] w fun e w'=>e=.returned (.tuple #[])∧w'=w:=
 AnyF.slices_SortFunc_none (P:=Tryz.prog) (ρ:=Tryz.sortG_ren) Tryz.sortG A c (.func (.func 170) #[] #[]) w
section
variable {L:List Rg} [Inhabited (SubG L)]
theorem holdsG {B:Nat} {w:World} {G n c:Nat} (h:OwG B w (.slice (some ⟨G,0,none⟩) n c) L):HoldsK (encG (L:=L)) 3 w G 0 L.attach.toArray:=fun t ht=>by
 have hn:n=L.length:=by obtain ⟨A,c',e,_⟩:=h.form;cases e;rfl
 subst hn
 have ht':t<L.length*3:=by simpa using ht
 rw [get_flatK _ _ _ t (by simpa using ht')]
 obtain ⟨x,hx⟩:∃x,L[t / 3]? =some x:=⟨_,jE (by omega)⟩
 have e:(L.attach.toArray[t / 3]!).1=x:=by
  rw [getElem!_pos L.attach.toArray (t / 3) (by simp;omega)]
  have:=(jS.1 hx).2
  simp [this]
 have ea:∀j,(⟨G,0,none⟩:Addr).add j=⟨G,0+j,none⟩:=fun j=>by unfold Addr.add;split<;>simp_all
 refine ⟨?_,World.ownsRow.frozenAt h _⟩
 obtain ⟨h0,h1,h2⟩:=rgC_at L _ x hx
 show _=some ((encG _)[t%3]!)
 unfold encG
 rw [e,←ea]
 rcases (show t%3=0∨t%3=1∨t%3=2 by omega) with k|k|k
 · rw [show t / 3*3=t by omega] at h0;rw [k];exact World.ownsRow.cells h (g:=G) rfl _ _ h0
 · rw [show t / 3*3+1=t by omega] at h1;rw [k];exact World.ownsRow.cells h (g:=G) rfl _ _ h1
 · rw [show t / 3*3+2=t by omega] at h2;rw [k];exact World.ownsRow.cells h (g:=G) rfl _ _ h2
theorem rg_of_holds {w:World} {G:Nat} {d:List (SubG L)} (hG:G<w.heap.size) (h:HoldsK (encG (L:=L)) 3 w G 0 d.toArray):RgAt w (some ⟨G,0,none⟩) (d.map (·.1)):=⟨fun _=>⟨G,0,rfl,hG,fun i x hx=>by
 rw [List.getElem?_map] at hx
 obtain ⟨y,hy,rfl⟩:=Option.map_eq_some_iff.1 hx
 have hi:=(jS.1 hy).1
 have e:d.toArray[i]! =y:=by
  rw [getElem!_pos d.toArray i (by simpa using hi)]
  have:=(jS.1 hy).2
  simpa using this
 have h0:=(h (i*3) (by simp;omega)).1
 have h1:=(h (i*3+1) (by simp;omega)).1
 have h2:=(h (i*3+2) (by simp;omega)).1
 rw [get_flatK _ _ _ _ (by simp;omega)] at h0 h1 h2
 rw [show i*3 / 3=i by omega,show i*3%3=0 by omega,e] at h0
 rw [show (i*3+1) / 3=i by omega,show (i*3+1)%3=1 by omega,e] at h1
 rw [show (i*3+2) / 3=i by omega,show (i*3+2)%3=2 by omega,e] at h2
 exact ⟨h0,h1,h2⟩⟩⟩
theorem sort_worldG {B:Nat} {w:World} {G n c m:Nat} {d':List (SubG L)} {os:Array Obj} (h:OwG B w (.slice (some ⟨G,0,none⟩) n c) L) (hG:G<w.heap.size) (hs:d'.length=L.length):RgAt (sortWorldK encG 3 w G 0 m d'.toArray os) (some ⟨G,0,none⟩) (d'.map (·.1))∧Off (· =G) w (sortWorldK encG 3 w G 0 m d'.toArray os):=by
 have h0:HoldsK encG 3 (Sort.ahead w m) G 0 L.attach.toArray:=holdsG h
 have h1:Holds id (putRow id (Sort.ahead w m) G 0 (flatK encG 3 d'.toArray)) G 0 (flatK encG 3 d'.toArray):=holds_putRow id _ G 0 (flatK encG 3 L.attach.toArray) (flatK encG 3 d'.toArray) h0 (by simp [hs])
 have o1:Off (· =G) w (putRow id (Sort.ahead w m) G 0 (flatK encG 3 d'.toArray)):=(show Off (· =G) w (Sort.ahead w m) from ⟨rfl,rfl,rfl,Nat.le_refl _,fun _ _ _=>rfl⟩).trans (off_putRow (Sort.ahead w m) G 0 _)
 have h2:=rg_of_holds (Nat.lt_of_lt_of_le hG o1.size) h1
 unfold sortWorldK putRowK
 exact ⟨h2.off (off_grow _ os) (fun _=>False.elim),o1.trans ((off_grow _ os).mono fun _=>False.elim)⟩
theorem sortG_some (w:World) {B G n c:Nat} (hL:OwG B w (.slice (some ⟨G,0,none⟩) n c) L) (hd:RgDist L) (hn:n=L.length) (hsz:L.length≤100000):
 Calls Tryz.prog 169 #[.slice (some ⟨G,0,none⟩) n c,.func (.func 170) #[] #[]] w fun e w'=>e=.returned (.tuple #[])∧RgAt w' (some ⟨G,0,none⟩) (sortG L)∧Off (· =G) w w':=by
 have eg:∀args w,(callFunc 170 args).run Tryz.prog w=.ok (.enter 170 args) w:=enters_of Tryz.func170 (by kernel_rfl) rfl
 have hG:=(hL.lt (k:=G) rfl).2
 have hcon:=AnyQ.slices_SortFunc_total Tryz.sortG 3 (fun w=>by kernel_rfl) (fun w=>by kernel_rfl) (encG (L:=L)) (fun _=>rfl) (fun x v hv=>by simp [encG,Rg.cells] at hv;rcases hv with rfl|rfl|rfl<;>rfl) ordG swoG 170 #[] G 0 c L.attach.toArray w eg (cmpG hd G 0 _ w) (holdsG hL) hG (by simp;omega) (totG hd)
 rw [show L.attach.toArray.size=n by simp [hn]] at hcon
 refine hcon.mono ?_
 rintro e w' ⟨rfl,m,os,rfl⟩
 have h:=sort_worldG (m:=m) (os:=os) (d':=L.attach.mergeSort fun x y=>!(ltOf ordG) y x) hL hG (by simp)
 rw [map_sortG,List.attach_map_subtype_val] at h
 exact ⟨rfl,h⟩
end
theorem sort_any (w:World) {B n c:Nat} {A:Option Addr} {L:List Rg} (hL:OwG B w (.slice A n c) L) (hd:RgDist L) (hsz:L.length≤100000):
 Calls Tryz.prog 169 #[.slice A n c,.func (.func 170) #[] #[]] w fun e w'=>e=.returned (.tuple #[])∧RgAt w' A (sortG L)∧Off (fun k=>(Value.slice A n c).ownBlock=some k) w w':=by
 obtain ⟨A',c',e,_⟩:=hL.form
 cases e
 cases L with
 | nil=>
   refine (sortG_none w A c).mono ?_
   rintro e w' ⟨rfl,rfl⟩
   exact ⟨rfl,by unfold sortG;rw [List.mergeSort_nil];exact RgAt.nil _ _,Off.refl _ _⟩
 | cons x M=>
   haveI:Inhabited (SubG (x::M)):=⟨⟨x,.head _⟩⟩
   obtain ⟨G,cap,hG,_⟩:=World.ownsRow.form hL (by simp)
   cases hG
   refine (sortG_some w hL hd rfl hsz).mono ?_
   rintro e w' ⟨rfl,h1,h2⟩
   exact ⟨rfl,h1,h2.mono fun k e=>by show some G=some k;rw [e]⟩
set_option maxRecDepth 100000
set_option maxHeartbeats 8000000
open Go.RowKit
def jn (out:List Rg) (r:Rg):List Rg:=
 match out.getLast? with
 |none=>out ++ [r]
 |some y=>if y.hi=r.lo∧y.pr=r.pr then out.dropLast ++ [⟨y.lo,r.hi,y.pr⟩] else out ++ [r]
def joinF (L:List Rg):List Rg:=L.foldl jn []
def joinedR (L:List Rg):List Rg:=joinF (sortG L)
theorem jn_nil (r:Rg):jn [] r=[r]:=rfl
theorem jn_yes (M:List Rg) (y r:Rg) (h:y.hi=r.lo∧y.pr=r.pr):jn (M ++ [y]) r=M ++ [⟨y.lo,r.hi,y.pr⟩]:=by
 unfold jn
 simp [h]
theorem jn_no (M:List Rg) (y r:Rg) (h:¬(y.hi=r.lo∧y.pr=r.pr)):jn (M ++ [y]) r=M ++ [y] ++ [r]:=by
 unfold jn
 simp only [List.getLast?_append,List.getLast?_singleton,Option.some_or]
 rw [if_neg h]
theorem jn_len (M:List Rg) (r:Rg):(jn M r).length≤M.length+1:=by
 unfold jn
 split
 · simp
 · split
   · simp;try omega
   · simp
theorem join_take (L:List Rg) {j:Nat} {r:Rg} (hr:L[j]? =some r):joinF (L.take (j+1))=jn (joinF (L.take j)) r:=by
 unfold joinF
 rw [List.take_add_one,hr]
 simp
theorem fold_len:∀(L:List Rg) (M:List Rg),(L.foldl jn M).length≤M.length+L.length
 |[],M=>by simp
 | x::L,M=>by
   have h1:=fold_len L (jn M x)
   have h2:=jn_len M x
   simp only [List.foldl_cons,List.length_cons]
   omega
theorem join_len (L:List Rg):(joinF L).length≤L.length:=by
 have:=fold_len L []
 simpa [joinF] using this
theorem eq_rg (x y:Rg) (w:World):(Op.equalIn 10000 62 (.agg #[.int .i64 x.lo,.int .i64 x.hi,.int .i64 x.pr]) (.agg #[.int .i64 y.lo,.int .i64 y.hi,.int .i64 y.pr])).run Tryz.prog w=.ok (decide (x=y)) w:=by
 obtain ⟨a,b,c⟩:=x
 obtain ⟨d,e,f⟩:=y
 have h:(Op.equalIn 10000 62 (.agg #[.int .i64 a,.int .i64 b,.int .i64 c]) (.agg #[.int .i64 d,.int .i64 e,.int .i64 f])).run Tryz.prog w=.ok (a==d && (b==e && c==f)) w:=by
  rw [run_equalIn_agg (P:=Tryz.prog) w 9999 62 _ _ (by kernel_rfl) (by kernel_rfl)]
  cases h1:a==d<;>cases h2:b==e<;>cases h3:c==f<;>simp [go_sem,h1,h2,h3]<;>simp_all
 have h2:(a==d && (b==e && c==f))=decide ((⟨a,b,c⟩:Rg)=⟨d,e,f⟩):=by
  rw [Bool.eq_iff_iff]
  simp
 rw [h,h2]
theorem OwG.low {B B':Nat} {w:World} {v:Value} {L:List Rg} (h:OwG B' w v L) (hb:B≤B'):OwG B w v L:=by
 refine ⟨h.1,?_⟩
 rcases h.2 with hn|⟨g,cap,cur,e,hbg,rest⟩
 · exact .inl hn
 · exact .inr ⟨g,cap,cur,e,Nat.le_trans hb hbg,rest⟩
theorem OwG.frozenAt {B:Nat} {w:World} {G n c:Nat} {M:List Rg} (h:OwG B w (.slice (some ⟨G,0,none⟩) n c) M) (j:Nat):w.frozen? ⟨G,j,none⟩=false:=by
 have hn:n=M.length:=by obtain ⟨A,c',e,_⟩:=h.form;cases e;rfl
 subst hn
 exact World.ownsRow.frozenAt h j
theorem OwG.setHi {B:Nat} {w:World} {G n c:Nat} {M:List Rg} {y:Rg} (h:OwG B w (.slice (some ⟨G,0,none⟩) n c) (M ++ [y])) (z:Int):
 OwG B (w.setCell ⟨G,M.length*3+1,none⟩ (.int .i64 z)) (.slice (some ⟨G,0,none⟩) n c) (M ++ [⟨y.lo,z,y.pr⟩])∧Off (· =G) w (w.setCell ⟨G,M.length*3+1,none⟩ (.int .i64 z)):=by
 refine ⟨?_,(Off.refl (· =G) w).setCell (p:=⟨G,_,none⟩) rfl _⟩
 have hn:n=M.length+1:=by obtain ⟨A,c',e,_⟩:=h.form;cases e;simp
 subst hn
 unfold OwG at h ⊢
 rw [List.length_append,List.length_singleton] at h ⊢
 have:=(World.ownsRow.stored h (M.length*3+1) (.int .i64 z)).1
 have e:(rgC (M ++ [y])).set (M.length*3+1) (.int .i64 z)=rgC (M ++ [⟨y.lo,z,y.pr⟩]):=by
  rw [rgC_app,rgC_app,List.set_append_right _ _ (by rw [rgC_len];omega),rgC_len]
  rw [show M.length*3+1-M.length*3=1 by omega]
  rfl
 rw [e] at this
 exact this
theorem joined_any (w:World) {B c:Nat} {A:Option Addr} {L:List Rg} (hL:OwG B w (.slice A L.length c) L) (hB:B≤w.heap.size) (hd:RgDist L) (hn:L.length≤100000):
 Calls Tryz.prog 145 #[.slice A L.length c] w fun e w'=>∃A' c',e=.returned (.slice A' (joinedR L).length c')∧OwG w.heap.size w' (.slice A' (joinedR L).length c') (joinedR L)∧Off (fun k=>(Value.slice A L.length c).ownBlock=some k) w w':=by
 have HS:=hJ (sort_any w hL hd hn)
 have HBw:=hJ hB
 have HLt:=hJ (fun k e=>hL.lt (k:=k) e)
 have hlen:(sortG L).length=L.length:=by simp [sortG]
 unfold joinedR
 obtain ⟨S,hS⟩:∃S,sortG L=S:=⟨_,rfl⟩
 rw [hS] at HS hlen
 rw [hS]
 rw [←hlen] at HS HLt hn
 rw [←hlen]
 obtain ⟨R,hR⟩:∃R,R=joinF S:=⟨_,rfl⟩
 rw [←hR]
 have HR:=hJ hR
 clear hL hd hlen hS hR hB
 go_enter Tryz.func145,Tryz.ntmps145
 go_upto_region 3 with (go_at_call 169;refine HS.out.mono ?_;rintro e w1 ⟨rfl,h1,h2⟩;have HRow:=hJ h1;have HOf:=hJ h2;clear h1 h2)
 have HB1:=hJ (Nat.le_trans HBw.out HOf.out.size)
 go_wp2
 go_loopw [3,11,5,6] (fun v i b5 b6 wr=>∃(j:Nat) (A':Option Addr) (c':Nat),j≤S.length∧i=.int .i64 (j:Nat)∧v=.slice A' (joinF (S.take j)).length c'∧FrG w1 wr (.slice A' (joinF (S.take j)).length c') (joinF (S.take j))) (fun _ i _ _ _=>S.length-(intOf i).toNat)
 case atStart=>exact ⟨0,none,0,by omega,rfl,rfl,FrG.nil w1⟩
 case round=>
  obtain ⟨j,A1,c1,hj,rfl,rfl,hfr⟩:=hrel
  have HF:=hJ hfr
  have hlen:=join_len (S.take j)
  have hlt:(S.take j).length≤S.length:=by simp;omega
  by_cases hjn:j<S.length
  · have hrow:=HRow.out.up hfr.2
    obtain ⟨g,o,hA,hg,hc⟩:=hrow.at_ (by omega)
    obtain ⟨r,hr⟩:∃r,S[j]? =some r:=⟨_,jE hjn⟩
    obtain ⟨q0,q1,q2⟩:=hc j r hr
    have hjI:(j:Int)<(S.length:Int):=by omega
    have HT:=hJ (join_take S hr)
    obtain ⟨ra,rb,rp⟩:=r
    simp only at q0 q1 q2
    rw [hA]
    obtain ⟨M,hM⟩:∃M,joinF (S.take j)=M:=⟨_,rfl⟩
    rw [hM] at HF HT hlen
    rw [hM]
    clear hfr hc hr hM hrow
    go_upto_region 6 with (fail)
    refine wp_forget (fun V=>FrG w1 V (.slice A1 M.length c1) M∧Rg3 V wr.heap.size ra rb rp) ⟨HF.out.up (jB.alloc jN _),Rg3.new wr ra rb rp 62⟩ ?_
    rintro V ⟨hf,k9⟩
    obtain ⟨b9,hb9⟩:∃g,wr.heap.size=g:=⟨_,rfl⟩
    rw [hb9] at k9
    rw [hb9]
    have HFV:=hJ hf
    obtain ⟨x0,x1,x2⟩:=k9
    have lx:=lt_of_cell x0
    clear hf HF q0 q1 q2 hb9
    have pushed:Hid (jn M ⟨ra,rb,rp⟩=M ++ [⟨ra,rb,rp⟩]→∀V2,Below V.heap.size V V2→∃A' c' w',(Builtin.append_ #[41,41] 41 #[.slice A1 M.length c1,.slice (some ⟨V2.heap.size,0,none⟩) 1 1]).run Tryz.prog (V2.alloc (.cells #[.int .i64 ra,.int .i64 rb,.int .i64 rp] 62))=.ok (.slice A' (joinF (S.take (j+1))).length c') w'∧FrG w1 w' (.slice A' (joinF (S.take (j+1))).length c') (joinF (S.take (j+1)))):=hJ fun e V2 hb=>by
     obtain ⟨A2,c2,w2,hr2,hf2,_⟩:=(HFV.out.up hb).push ⟨ra,rb,rp⟩ 62 (by omega) 41
     rw [HT.out,e]
     refine ⟨A2,c2,w2,?_,?_⟩
     · rw [List.length_append,List.length_singleton];exact hr2
     · rw [List.length_append,List.length_singleton];exact hf2
    rcases M.eq_nil_or_concat with rfl|⟨M0,y,hM0⟩
    · have HPU:=hJ (pushed.out (jn_nil _))
      clear pushed
      simp only [List.length_nil] at HPU ⊢
      have hd:decide ((0:Int)<((0:Nat):Int))=false:=by simp
      go_upto_region 7 with (fail)
      go_quiet (fail)
      obtain ⟨A2,c2,w2,hr2,hf2⟩:=HPU.out (V.drewN nq) ⟨rfl,rfl,rfl,Nat.le_refl _,fun _ _=>rfl⟩
      have HF2:=hJ hf2
      clear hf2
      go_wp2_with (at_builtin;go_must (refine wpList_append_run rfl (.tmp 45) (.tmp 47) 41 rfl _ _ rfl rfl hr2 ?_))
      go_roundw
      case rel=>exact ⟨j+1,A2,c2,by omega,by go_num,rfl,HF2.out⟩
      case measure=>simp [intOf];omega
    · rw [List.concat_eq_append] at hM0
      subst hM0
      rw [List.length_append,List.length_singleton] at hlen HFV pushed ⊢
      obtain ⟨ya,yb,yp⟩:=y
      have hA1:=HFV.out.1.rg
      obtain ⟨g1,o1,rfl,hg1,hc1⟩:=hA1.at_ (by simp)
      obtain ⟨z0,z1,z2⟩:=hc1 M0.length ⟨ya,yb,yp⟩ (by simp)
      obtain rfl:o1=0:=by
       have hl:=HFV.out.1.form
       obtain ⟨G,cap,hG,_⟩:=World.ownsRow.form HFV.out.1 (by simp)
       injection hG with e
       injection e with e
       injection e
      simp only [Nat.zero_add] at z0 z1 z2
      have hm:(0:Int)<((M0.length+1:Nat):Int):=by omega
      have hi:IntKind.i64.wrap (((M0.length+1:Nat):Int)-1)=(M0.length:Int):=by rw [IntWalk.i64_in _ (by omega)];omega
      have hb:(M0.length:Int)<((M0.length+1:Nat):Int):=by omega
      clear hA1 hc1
      by_cases h:yb=ra∧yp=rp
      · have heq:∀w,(Op.equalIn 10000 62 (.agg #[.int .i64 ya,.int .i64 yb,.int .i64 yp]) (.agg #[.int .i64 ya,.int .i64 ra,.int .i64 rp])).run Tryz.prog w=.ok true w:=fun w=>by
         rw [eq_rg ⟨ya,yb,yp⟩ ⟨ya,ra,rp⟩,h.1,h.2];simp
        have HJ:=hJ (jn_yes M0 ⟨ya,yb,yp⟩ ⟨ra,rb,rp⟩ h)
        have HOW2:=hJ (HFV.out.1.setHi rb)
        have hfz:=(OwG.frozenAt HFV.out.1 (M0.length*3+1))
        clear h pushed
        go_upto_region 7 with (fail)
        go_quiet (fail)
        go_wp2
        go_roundw
        case rel=>
         refine ⟨j+1,some ⟨g1,0,none⟩,c1,by omega,by go_num,by rw [HT.out,HJ.out];simp,?_⟩
         rw [HT.out,HJ.out,List.length_append,List.length_singleton]
         have hf:=HFV.out
         have h2:=HOW2.out
         have ho:Off (fun _=>False) (V.setCell ⟨g1,M0.length*3+1,none⟩ (.int .i64 rb)) ((V.drewN nq).setCell ⟨g1,M0.length*3+1,none⟩ (.int .i64 rb)):=⟨rfl,rfl,rfl,Nat.le_refl _,fun _ _ _=>rfl⟩
         refine ⟨h2.1.off ho (fun _ _=>id),?_⟩
         exact hf.2.trans ((h2.2.trans (ho.mono fun _=>False.elim)).below (fun k e=>by rw [e];exact (hf.1.lt (k:=g1) rfl).1) hf.2.size)
        case measure=>simp [intOf];omega
      · have heq:∀w,(Op.equalIn 10000 62 (.agg #[.int .i64 ya,.int .i64 yb,.int .i64 yp]) (.agg #[.int .i64 ya,.int .i64 ra,.int .i64 rp])).run Tryz.prog w=.ok false w:=fun w=>by
         rw [eq_rg ⟨ya,yb,yp⟩ ⟨ya,ra,rp⟩,decide_eq_false (by simp;intro e1 e2;exact h ⟨e1,e2⟩)]
        have HPU:=hJ (pushed.out (jn_no M0 ⟨ya,yb,yp⟩ _ h))
        clear pushed h
        go_upto_region 7 with (fail)
        go_quiet (fail)
        obtain ⟨A2,c2,w2,hr2,hf2⟩:=HPU.out (V.drewN nq) ⟨rfl,rfl,rfl,Nat.le_refl _,fun _ _=>rfl⟩
        have HF2:=hJ hf2
        clear hf2
        go_wp2_with (at_builtin;go_must (refine wpList_append_run rfl (.tmp 45) (.tmp 47) 41 rfl _ _ rfl rfl hr2 ?_))
        go_roundw
        case rel=>exact ⟨j+1,A2,c2,by omega,by go_num,rfl,HF2.out⟩
        case measure=>simp [intOf];omega
  · obtain rfl:j=S.length:=by omega
    have hjj:¬(S.length:Int)<(S.length:Int):=by omega
    rw [List.take_length,←HR.out] at HF
    rw [List.take_length,←HR.out]
    clear hjn hlen hlt hfr
    go_wp2
    go_ret
    refine ⟨_,_,rfl,?_,?_⟩
    · exact HF.out.1.low HOf.out.size
    · exact HOf.out.trans ((Off.of_below HF.out.2).mono fun _=>False.elim)
set_option maxRecDepth 100000
set_option maxHeartbeats 8000000
theorem cutR_len (L:List Rg) (lo hi:Int):(cutR L lo hi).length≤2*L.length:=by
 unfold cutR
 split
 · omega
 · exact flat_len lo hi L
theorem FrG.join {w0 w w':World} {v v':Value} {L M:List Rg} (h:FrG w0 w v L) (ho:OwG w.heap.size w' v' M) (hf:Off (fun k=>v.ownBlock=some k) w w'):FrG w0 w' v' M:=
 ⟨ho.low h.2.size,h.2.trans (hf.below (fun k e=>(h.1.lt e).1) h.2.size)⟩
theorem FrG.pushJoin {w0 w:World} {A:Option Addr} {c:Nat} {M N:List Rg} (h:FrG w0 w (.slice A M.length c) M) (lo hi p:Int) (hN:M ++ [⟨lo,hi,p⟩]=N) (hd:RgDist N) (hlen:M.length≤50000):
 ∃ A' c' w',(Builtin.append_ #[41,41] 41 #[.slice A M.length c,.slice (some ⟨w.heap.size,0,none⟩) 1 1]).run Tryz.prog (w.alloc (.cells #[.int .i64 lo,.int .i64 hi,.int .i64 p] 62))=.ok (.slice A' N.length c') w'∧
   Calls Tryz.prog 145 #[.slice A' N.length c'] w' fun e w2=>∃A2 c2,e=.returned (.slice A2 (joinedR N).length c2)∧FrG w0 w2 (.slice A2 (joinedR N).length c2) (joinedR N):=by
 subst hN
 obtain ⟨A2,c2,w4,hr2,hf2,_⟩:=h.push ⟨lo,hi,p⟩ 62 (by omega) 41
 have hl:(M ++ [(⟨lo,hi,p⟩:Rg)]).length=M.length+1:=by simp
 rw [←hl] at hr2 hf2
 refine ⟨A2,c2,w4,hr2,?_⟩
 refine (joined_any w4 hf2.1 hf2.2.size hd (by omega)).mono ?_
 rintro e w5 ⟨A3,c3,rfl,ho5,hf5⟩
 exact ⟨A3,c3,rfl,hf2.join ho5 hf5⟩
theorem unmapG_any (w:World) {A:Option Addr} (c:Nat) {L:List Rg} (hL:RgAt w A L) (hn:L.length≤100000) (lo hi:Int):
 Calls Tryz.prog 183 #[.slice A L.length c,.int .i64 lo,.int .i64 hi] w fun e w'=>∃A' c',e=.returned (.slice A' (cutR L lo hi).length c')∧FrG w w' (.slice A' (cutR L lo hi).length c') (cutR L lo hi):=by
 have HC:=hJ (cutG_any w c hL hn lo hi)
 clear hL
 go_enter Tryz.func183,Tryz.ntmps183
 go_wp2_with (go_at_call 198;refine HC.out.mono ?_;rintro e W1 ⟨A1,c1,rfl,hf⟩;have HF:=hJ hf;clear hf)
 go_ret
 exact ⟨_,_,rfl,HF.out⟩
def protF (L:List Rg) (lo hi p:Int):List Rg×Int:=
 if rightB lo hi p=false then ([],1) else if allF L lo hi 0=false then ([],2) else (joinedR (cutR L lo hi ++ [⟨lo,hi,p⟩]),0)
def mapF (L:List Rg) (lo hi p:Int):List Rg×Int:=
 if rightB lo hi p=false then ([],1) else if piecesF L lo hi≠[] then ([],3) else (joinedR (L ++ [⟨lo,hi,p⟩]),0)
def RgPost (w:World) (R:List Rg×Int) (e:Ending) (w':World):Prop:=
 ∃A' c',e=.returned (.tuple #[.slice A' R.1.length c',.int .i64 R.2])∧FrG w w' (.slice A' R.1.length c') R.1
theorem protG_any (w:World) {A:Option Addr} (c:Nat) {L:List Rg} (hL:RgAt w A L) (hn:L.length≤10000) (lo hi p:Int) (hd:rightB lo hi p=true→allF L lo hi 0=true→RgDist (cutR L lo hi ++ [⟨lo,hi,p⟩])):
 Calls Tryz.prog 184 #[.slice A L.length c,.int .i64 lo,.int .i64 hi,.int .i64 p] w (RgPost w (protF L lo hi p)):=by
 obtain ⟨b1,hb1⟩:∃b,rightB lo hi p=b:=⟨_,rfl⟩
 obtain ⟨b2,hb2⟩:∃b,allF L lo hi 0=b:=⟨_,rfl⟩
 have HR:Hid (Calls Tryz.prog 143 #[.int .i64 lo,.int .i64 hi,.int .i64 p] w fun e w'=>e=.returned (.bool b1)∧w'=w):=hJ (by rw [←hb1];exact rright_any w lo hi p)
 have HA:Hid (Calls Tryz.prog 101 #[.slice A L.length c,.int .i64 lo,.int .i64 hi,.int .i64 0] w fun e w'=>e=.returned (.bool b2)∧Below w.heap.size w w'):=hJ (by rw [←hb2];exact all_any w c hL (by omega) lo hi 0)
 have HL:=hJ hL
 have HD:=hJ hd
 unfold RgPost protF
 rw [hb1,hb2]
 rw [hb1,hb2] at HD
 clear hL hd hb1 hb2
 have hlen:=cutR_len L lo hi
 cases b1 with
 | false=>
   go_enter Tryz.func184,Tryz.ntmps184
   go_wp2_with (go_at_call 143;refine HR.out.mono ?_;rintro e w1 ⟨rfl,rfl⟩)
   go_ret2
   exact ⟨none,0,rfl,FrG.nil _⟩
 | true=>
   cases b2 with
   | false=>
     go_enter Tryz.func184,Tryz.ntmps184
     go_wp2_with (first|(go_at_call 143;refine HR.out.mono ?_;rintro e w1 ⟨rfl,rfl⟩)|(go_at_call 101;refine HA.out.mono ?_;rintro e w2 ⟨rfl,hbl⟩;have HBL:=hJ hbl;clear hbl))
     go_ret2
     exact ⟨none,0,rfl,(FrG.nil _).up HBL.out⟩
   | true=>
     obtain ⟨M,hM⟩:∃M,cutR L lo hi=M:=⟨_,rfl⟩
     have HC:Hid (∀w1,Below w.heap.size w w1→Calls Tryz.prog 198 #[.slice A L.length c,.int .i64 lo,.int .i64 hi] w1 fun e w'=>∃A' c',e=.returned (.slice A' M.length c')∧FrG w1 w' (.slice A' M.length c') M):=hJ fun w1 hb=>by
      have:=cutG_any w1 c (HL.out.up hb) (by omega) lo hi
      rw [hM] at this
      exact this
     have HDD:=hJ (HD.out rfl rfl)
     rw [hM] at HDD hlen
     rw [hM]
     clear hM HD
     have hl1:(M ++ [(⟨lo,hi,p⟩:Rg)]).length=M.length+1:=by simp
     obtain ⟨N,hN⟩:∃N,M ++ [(⟨lo,hi,p⟩:Rg)]=N:=⟨_,rfl⟩
     rw [hN] at HDD hl1
     have HN:=hJ hN
     simp only [hN,Bool.true_eq_false,if_false]
     clear hN
     go_enter Tryz.func184,Tryz.ntmps184
     go_upto_region 5 with (first
      |(go_at_call 143;refine HR.out.mono ?_;rintro e w1 ⟨rfl,rfl⟩)
      |(go_at_call 101;refine HA.out.mono ?_;rintro e w2 ⟨rfl,hbl⟩;have HBL:=hJ hbl;clear hbl))
     have HC2:=hJ (HC.out _ HBL.out)
     clear HC HR HA
     have HPJ:Hid (∀w3 A1 c1,FrG w2 w3 (.slice A1 M.length c1) M→∃A' c' w',(Builtin.append_ #[41,41] 41 #[.slice A1 M.length c1,.slice (some ⟨w3.heap.size,0,none⟩) 1 1]).run Tryz.prog (w3.alloc (.cells #[.int .i64 lo,.int .i64 hi,.int .i64 p] 62))=.ok (.slice A' N.length c') w'∧
      Calls Tryz.prog 145 #[.slice A' N.length c'] w' fun e w5=>∃A2 c2,e=.returned (.slice A2 (joinedR N).length c2)∧FrG w2 w5 (.slice A2 (joinedR N).length c2) (joinedR N)):=hJ fun w3 A1 c1 h=>h.pushJoin lo hi p HN.out HDD.out (by omega)
     clear HN HDD HL hl1 hlen hn
     go_wp2_with (first
      |(go_at_call 198;go_loud (refine HC2.out.mono ?_;rintro e w3 ⟨A1,c1,rfl,hf⟩;obtain ⟨A2,c2,w4,hr2,hj⟩:=HPJ.out _ _ _ hf;have HJ:=hJ hj;clear hf hj HPJ))
      |(at_builtin;go_must (refine wpList_append_run rfl (.tmp 25) (.tmp 30) 41 rfl _ _ rfl rfl hr2 ?_))
      |(go_at_call 145;go_loud (refine HJ.out.mono ?_;rintro e w5 ⟨A3,c3,rfl,hf⟩;have HF5:=hJ hf;clear hf)))
     go_ret2
     have h:=HF5.out
     exact ⟨A3,c3,rfl,h.1.low HBL.out.size,HBL.out.trans (h.2.mono HBL.out.size)⟩
end Go.Proofs.YtlhfjaagkgengaaGreat
