/- Parts of the walks and of the plain theory, the first: What a table's helpers make: two rows put together; the least and the greatest fixed row. Conditions: the rows lie in the world. -/
import Derived.Test.YtkgfdgfhpdhhaaaGreatT11
namespace Go.Proofs.YtkgfdgfhpdhhaaaGreat
open Go.ChangeShapes Go.WideShapes Go.RowKit
set_option maxRecDepth 100000
set_option maxHeartbeats 8000000
section
variable {tb ga gb : Nat} {nv : Value} {ap al : Option Addr} {np cp nl cl n : Nat} {w : World} {A B : List Bool}
theorem both_any (hA:BBlk w ga A) (hB:BBlk w gb B) (hla:A.length=n) (hlb:B.length=n) (hn:n≤10000) (k:Nat) (hent:∀ args w,(callFunc k args).run Tryz.prog w = .ok (.enter k args) w) (s:Bool→Bool→Bool)
 (hs:∀ x y W,Calls Tryz.prog k #[.bool x,.bool y] W fun e W'=>e = .returned (.bool (s x y))∧Chg Nob W W') :
 Calls Tryz.prog 105 #[.slice (some ⟨ga,0,none⟩) n n,.slice (some ⟨gb,0,none⟩) n n,.func (.func k) #[] #[]] w fun e w'=>Chg Nob w w'∧∃ g,w.heap.size≤g∧e = .returned (.slice (some ⟨g,0,none⟩) n n)∧BBlk w' g (List.zipWith s A B):=by
 have HA:=Lib.hid hA
 have HBr:=Lib.hid hB
 have Hla:=Lib.hid hla
 have Hlb:=Lib.hid hlb
 have Hs:=Lib.hid hs
 have hmk:=make116 n hn
 have hni:(n:Int)≤10000:=by omega
 have hga:=hA.lt
 have hgb:=hB.lt
 clear hA hB hla hlb hs
 go_enter Tryz.func105,Tryz.ntmps105
 go_wp2_with fail
 clear hmk
 have hW:Chg Nob w (w.alloc (.cells (bcells (List.replicate n false)) 4)):=(Chg.refl _ _).alloc _
 have hb:BBlk (w.alloc (.cells (bcells (List.replicate n false)) 4)) w.heap.size (List.replicate n false):=heap_alloc_new _ _
 have HW:=Lib.hid hW
 have Hb:=Lib.hid hb
 clear hW hb
 generalize (w.alloc (.cells (bcells (List.replicate n false)) 4))=W0 at *
 go_loopw [8,14] (fun _ iv wr=>∃ i:Nat,iv = .int .i64 (i:Int)∧i≤n∧Chg (At1 w.heap.size) W0 wr∧∃ L,Hid (BBlk wr w.heap.size L∧L.length=n∧∀ j,j < i→L[j]? = (List.zipWith s A B)[j]?)) (fun _ iv _=>n - (intOf iv).toNat)
 case atStart=>exact ⟨0,rfl,Nat.zero_le _,Chg.refl _ _,_,Hb.out,List.length_replicate,fun j h=>absurd h (Nat.not_lt_zero j)⟩
 case round =>
  obtain ⟨i,rfl,hi,hcr,L,hL⟩:=hrel
  by_cases hlt:i < n
  ·have hii:(i:Int) < (n:Int):=by omega
   have hi0:(0:Int)≤(i:Int):=by omega
   have hcw:Chg Nob w wr:=HW.out.trans hcr (fun k hk e=>by have e:k=w.heap.size:=e;omega)
   obtain ⟨x,hx⟩:∃ x,A[i]? = some x:=⟨_,List.getElem?_eq_getElem (by rw [Hla.out];exact hlt)⟩
   obtain ⟨y,hy⟩:∃ y,B[i]? = some y:=⟨_,List.getElem?_eq_getElem (by rw [Hlb.out];exact hlt)⟩
   have hz2:(List.zipWith s A B)[i]? = some (s x y):=by rw [List.getElem?_zipWith,hx,hy]
   obtain ⟨hB,hLl,hLs⟩:=hL.out
   have HB:=Lib.hid hB
   have HLs:Hid (∀ j,j < i+1→(L.set i (s x y))[j]? = (List.zipWith s A B)[j]?):=(show ∀ j,j < i+1→(L.set i (s x y))[j]? = (List.zipWith s A B)[j]? from fun j hj=>by
    by_cases e:j=i
    ·subst e;rw [List.getElem?_set_self (by omega),hz2]
    ·rw [List.getElem?_set_ne (Ne.symm e)];exact hLs j (by omega))
   have HLl:Hid ((L.set i (s x y)).length=n):=(show (L.set i (s x y)).length=n by rw [List.length_set];exact hLl)
   obtain ⟨z,hz⟩:∃ z,L[i]? = some z:=⟨_,List.getElem?_eq_getElem (by omega)⟩
   have Hz:=Lib.hid hz
   have hSx:Hid (∀ w',Chg Nob wr w'→w'.cell? ⟨ga,i,none⟩=some (.bool x)∧w'.cell? ⟨gb,i,none⟩=some (.bool y)):=fun w' h=>⟨(HA.out.chg (hcw.trans1 h) (fun e=>e)).cell hx,(HBr.out.chg (hcw.trans1 h) (fun e=>e)).cell hy⟩
   obtain ⟨d0,e0⟩:=hSx.out wr (Chg.refl _ _)
   clear hB hLl hLs hL hz hz2 hx hy hcw
   go_wp2_with fail
   refine wp_region_free (fun j=>j != 13) (fun w'=>w'.cell? ⟨ga,i,none⟩=some (.bool x)∧w'.cell? ⟨gb,i,none⟩=some (.bool y)) (by kernel_rfl) ⟨d0,e0⟩ (fun hHeld=>?_)
   refine tkG 0 hHeld ?_
   refine tkG 1 hHeld ?_
   refine tkG 2 hHeld ?_
   refine tkG 3 hHeld ?_
   refine tkG 4 hHeld ?_
   refine tkG 5 hHeld ?_
   refine tkG 6 hHeld ?_
   refine tkG 7 hHeld ?_
   refine tkG 8 hHeld ?_
   refine tkG 9 hHeld ?_
   refine tkG 10 hHeld ?_
   refine rdG 11 fun K hK=>?_
   go_simp
   (with_reducible refine (Hs.out x y _).mono ?_)
   rintro e W' ⟨rfl,hcW'⟩
   have hcW':Chg Nob wr W':=((Chg.refl Nob wr).drew).trans1 hcW'
   have HcW':=Lib.hid hcW'
   have hH1:=hSx.out W' hcW'
   clear hcW'
   refine hK.out _ _ (fun _=>hSx.out _ HcW'.out) ?_
   clear hK K
   try simp only [Act.put]
   refine tkG 12 hH1 ?_
   refine rdG 13 fun K hK=>?_
   have hB':=HB.out.chg HcW'.out (fun e=>e)
   have c0:=hB'.cell Hz.out
   have f0:=hB'.free i
   have HB2:=Lib.hid (hB'.set i (s x y))
   have hset:Chg (At1 w.heap.size) W0 (W'.setCell ⟨w.heap.size,i,none⟩ (.bool (s x y))):=(hcr.trans1 HcW'.out.any).setCell (p:=⟨w.heap.size,i,none⟩) (fun _=>rfl) _
   have Hset:=Lib.hid hset
   clear hB' hset
   go_simp
   refine hK.out _ _ (fun h=>absurd h (by decide)) ?_
   clear hK K c0 f0
   try simp only [Act.put]
   refine wpAnyG_done (by kernel_rfl) ?_ _
   go_simp
   go_wp2_with fail
   go_roundw
   case rel=>exact ⟨i+1,by go_num,by omega,Hset.out,_,HB2.out,HLl.out,HLs.out⟩
   case measure=>simp [intOf];omega
  ·obtain rfl:i=n:=by omega
   obtain ⟨hB,hLl,hLs⟩:=hL.out
   have hLe:L=List.zipWith s A B:=by
    refine List.ext_getElem? (fun j=>?_)
    rcases Nat.lt_or_ge j i with h | h
    ·exact hLs j h
    ·rw [List.getElem?_eq_none_iff.2 (by omega),List.getElem?_eq_none_iff.2 (by rw [List.length_zipWith,Hla.out,Hlb.out];omega)]
   have HB:Hid (BBlk wr w.heap.size (List.zipWith s A B)):=(show BBlk wr w.heap.size _ from hLe ▸ hB)
   have Hc:Hid (Chg Nob w wr):=Lib.hid (HW.out.trans hcr (fun k hk e=>by have e:k=w.heap.size:=e;omega))
   clear hB hLl hLs hL hLe hcr
   go_wp2
   go_ret
   exact ⟨Hc.out,_,Nat.le_refl _,rfl,HB.out⟩
def nextN (np n i:Nat):Nat:=if i+1=n then np else i+1
def updL (np n:Nat) (A B L:List Bool) (i:Nat):List Bool:=L.set i (A.getD i false || (B.getD i false&&L.getD (nextN np n i) false))
def sweepTo (np n:Nat) (A B:List Bool):Nat→List Bool→List Bool
 | 0,L=>L
 | m+1,L=>sweepTo np n A B m (updL np n A B L m)
def fixL (np n:Nat) (A B:List Bool) (b:Bool):List Bool:=sweepTo np n A B n (sweepTo np n A B n (List.replicate n b))
def sweeps (np n:Nat) (A B:List Bool):Nat→List Bool→List Bool
 | 0,L=>L
 | r+1,L=>sweeps np n A B r (sweepTo np n A B n L)
theorem fix1_any (w:World) (g:Nat) (x:Bool) (i:Int) (hb:w.cell? ⟨g,0,none⟩=some (.bool x)):Calls Tryz.prog 151 #[.int .i64 i,.pointer (some ⟨g,0,none⟩)] w fun e w'=>e = .returned (.bool x)∧Chg Nob w w':=by
 go_enter Tryz.func151,Tryz.ntmps151
 go_wp2
 go_ret
 exact ⟨rfl,Chg.refl _ _⟩
theorem fix_any (hT:TabIs w tb nv ap np cp al nl cl n) (hA:BBlk w ga A) (hB:BBlk w gb B) (hla:A.length=n) (hlb:B.length=n) (hn:n≤10000) (hnp:np < n) (b:Bool) :
 Calls Tryz.prog 104 #[.pointer (some ⟨tb,0,none⟩),.slice (some ⟨ga,0,none⟩) n n,.slice (some ⟨gb,0,none⟩) n n,.bool b] w fun e w'=>Chg Nob w w'∧∃ g,w.heap.size≤g∧e = .returned (.slice (some ⟨g,0,none⟩) n n)∧BBlk w' g (fixL np n A B b):=by
 have hmf:∀ (fn:Fn) (first cap:Array Value) (w:World),(Instr.makeFunc fn first cap).run Tryz.prog w = .ok (.func fn first cap) w:=fun _ _ _ _=>rfl
 obtain ⟨X,hX,hcX,hbX⟩:∃ X,X=w.alloc (.cells #[.bool b] 4)∧Chg Nob w X∧X.heap[w.heap.size]? = some (.cells #[.bool b] 4 (0,0)):=⟨_,rfl,(Chg.refl _ _).alloc _,heap_alloc_new _ _⟩
 have hp:=each_any (w:=X) (hcX.at hT (fun e=>e)) hn 151 #[.pointer (some ⟨w.heap.size,0,none⟩)] (enters_of Tryz.func151 (by kernel_rfl) rfl) (fun _=>b) (fun i hi W hW=>fix1_any W w.heap.size b i (cell_row (hW.at hbX (fun e=>e)) 0 rfl))
 have HT:=Lib.hid hT
 have HA:=Lib.hid hA
 have HBr:=Lib.hid hB
 have Hla:=Lib.hid hla
 have Hlb:=Lib.hid hlb
 have HcX:=Lib.hid hcX
 have hni:(n:Int)≤10000:=by omega
 have hsX:w.heap.size≤X.heap.size:=hcX.size
 have hga:=hA.lt
 have hgb:=hB.lt
 have htb:tb < w.heap.size:=(Array.getElem?_eq_some_iff.1 hT).1
 clear hA hB hla hlb hT hcX hbX
 go_enter Tryz.func104,Tryz.ntmps104
 go_wp2_with fail
 rw [← hX]
 clear hX
 (with_reducible refine hp.mono ?_)
 clear hp
 rintro e w2 ⟨hc2,g,hg,rfl,hbg⟩
 have hbg0:BBlk w2 g (List.replicate n b):=by
  rw [show List.replicate n b=(List.range n).map (fun _=>b) by rw [List.map_const',List.length_range]]
  exact hbg
 have Hbg:=Lib.hid hbg0
 have Hc2:=Lib.hid (HcX.out.trans1 hc2)
 clear hbg hbg0 hc2
 go_wp2_with fail
 go_loopw [10,14] (fun _ rv wr=>∃ r:Nat,rv = .int .i64 (r:Int)∧r≤2∧Chg (At1 g) w2 wr∧∃ L,Hid (BBlk wr g L∧L.length=n∧sweeps np n A B (2 - r) L=fixL np n A B b)) (fun _ rv _=>2 - (intOf rv).toNat)
 case atStart=>exact ⟨0,rfl,by omega,Chg.refl _ _,_,Hbg.out,List.length_replicate,rfl⟩
 case round =>
  obtain ⟨r,rfl,hr,hcr,L,hL⟩:=hrel
  have hcw:Chg Nob w wr:=Hc2.out.trans hcr (fun k hk e=>by have e:k=g:=e;omega)
  obtain ⟨t0,t1,t2,t3⟩:=TabIs.cells (hcw.at HT.out (fun e=>e))
  by_cases hlt:r < 2
  ·have hri:(r:Int) < 2:=by omega
   obtain ⟨hB1,hL1,hS1⟩:=hL.out
   have HL0:Hid (BBlk wr g L∧L.length=n∧sweepTo np n A B n L=sweepTo np n A B n L):=⟨hB1,hL1,rfl⟩
   have Hnext:Hid (∀ L',L'=sweepTo np n A B n L→sweeps np n A B (2 - (r+1)) L'=fixL np n A B b):=(show ∀ L',L'=sweepTo np n A B n L→sweeps np n A B (2 - (r+1)) L'=fixL np n A B b from fun L' e=>by
    rw [e,← hS1,show 2 - r=2 - (r+1)+1 by omega];rfl)
   clear hB1 hL1 hS1 hL
   go_wp2_with fail
   clear t0 t1 t2 t3
   go_loopw [10] (fun kv wr'=>∃ (m:Nat) (iv:Int),kv = .int .i64 iv∧iv=(m:Int) - 1∧m≤n∧Chg (At1 g) w2 wr'∧∃ L',Hid (BBlk wr' g L'∧L'.length=n∧sweepTo np n A B m L'=sweepTo np n A B n L)) (fun kv _=>(intOf kv+1).toNat)
   case atStart=>exact ⟨n,_,rfl,rfl,Nat.le_refl _,hcr,_,HL0.out.1,HL0.out.2.1,rfl⟩
   case round =>
    clear hcr hcw
    obtain ⟨m,iv,rfl,hiv,hm,hcr,L',hL'⟩:=hrel
    have hcw:Chg Nob w wr:=Hc2.out.trans hcr (fun k hk e=>by have e:k=g:=e;omega)
    obtain ⟨t0,t1,t2,t3⟩:=TabIs.cells (hcw.at HT.out (fun e=>e))
    obtain ⟨hB1,hL1,hS1⟩:=hL'.out
    by_cases hm0:m=0
    ·subst hm0
     have hivn:¬ (0:Int)≤iv:=by omega
     have HN:Hid (BBlk wr g L'∧L'.length=n∧sweeps np n A B (2 - (r+1)) L'=fixL np n A B b):=⟨hB1,hL1,Hnext.out L' hS1⟩
     clear hB1 hL1 hS1 hL' hiv
     go_wp2_with fail
     go_roundw
     case rel=>exact ⟨r+1,by go_num,by omega,hcr,L',HN⟩
     case measure=>simp [intOf];omega
    ·obtain ⟨i,rfl⟩:∃ i,m=i+1:=⟨m - 1,by omega⟩
     obtain rfl:iv=(i:Int):=by omega
     have hi0:(0:Int)≤(i:Int):=by omega
     have hin:(i:Int) < (n:Int):=by omega
     have hil:i < n:=by omega
     obtain ⟨q,hq⟩:∃ q,q=nextN np n i:=⟨_,rfl⟩
     have hqn:q < n:=by rw [hq];unfold nextN;split <;> omega
     obtain ⟨x,hx⟩:∃ x,A[i]? = some x:=⟨_,List.getElem?_eq_getElem (by rw [Hla.out];exact hil)⟩
     obtain ⟨y,hy⟩:∃ y,B[i]? = some y:=⟨_,List.getElem?_eq_getElem (by rw [Hlb.out];exact hil)⟩
     obtain ⟨z,hz⟩:∃ z,L'[q]? = some z:=⟨_,List.getElem?_eq_getElem (by rw [hL1];exact hqn)⟩
     obtain ⟨v,hv⟩:∃ v,L'[i]? = some v:=⟨_,List.getElem?_eq_getElem (by rw [hL1];exact hil)⟩
     have HR:Hid (∀ u,u=(x || (y&&z))→∀ W',BBlk W' g (L'.set i u)→(BBlk W' g (L'.set i u)∧(L'.set i u).length=n∧sweepTo np n A B i (L'.set i u)=sweepTo np n A B n L)):=(show ∀ u,u=(x || (y&&z))→∀ W',BBlk W' g (L'.set i u)→(BBlk W' g (L'.set i u)∧(L'.set i u).length=n∧sweepTo np n A B i (L'.set i u)=sweepTo np n A B n L) from fun u hu W' hW'=>by
      refine ⟨hW',by rw [List.length_set];exact hL1,?_⟩
      rw [← hS1,sweepTo]
      congr 1
      unfold updL
      rw [List.getD_eq_getElem?_getD,List.getD_eq_getElem?_getD,List.getD_eq_getElem?_getD,hx,hy,← hq,hz,hu]
      rfl)
     have c0:=(HA.out.chg hcw (fun e=>e)).cell hx
     have c1:=(HBr.out.chg hcw (fun e=>e)).cell hy
     have c2:=hB1.cell hz
     have c3:=hB1.cell hv
     have f3:=hB1.free i
     have hset:∀ u,Chg (At1 g) w2 (wr.setCell ⟨g,i,none⟩ (.bool u)):=fun u=>hcr.setCell (p:=⟨g,i,none⟩) (fun _=>rfl) _
     have Hset:=Lib.hid hset
     have Hbs:Hid (∀ u,BBlk (wr.setCell ⟨g,i,none⟩ (.bool u)) g (L'.set i u)):=fun u=>hB1.set i u
     have hp:=tnext_any (hcw.at HT.out (fun e=>e)) i hil hn (by omega) q hq
     have Hp:=Lib.hid hp
     have hq0:(0:Int)≤(q:Int):=by omega
     have hqi:(q:Int) < (n:Int):=by omega
     clear hB1 hL1 hS1 hL' hiv hx hy hz hv hq hset hp hcr hcw
     cases x with
     | true =>
       go_wp2_with fail
       go_roundw
       case rel=>exact ⟨i,_,rfl,by omega,by omega,Hset.out _,_,HR.out true rfl _ (Hbs.out true)⟩
       case measure=>simp [intOf]
     | false =>
       cases y with
       | false =>
         go_wp2_with fail
         go_roundw
         case rel=>exact ⟨i,_,rfl,by omega,by omega,Hset.out _,_,HR.out false rfl _ (Hbs.out false)⟩
         case measure=>simp [intOf]
       | true =>
         go_wp2_with fail
         (with_reducible refine Hp.out.mono ?_)
         rintro e w3 ⟨rfl,rfl⟩
         go_wp2_with fail
         go_roundw
         case rel=>exact ⟨i,_,rfl,by omega,by omega,Hset.out _,_,HR.out z rfl _ (Hbs.out z)⟩
         case measure=>simp [intOf]
  ·obtain rfl:r=2:=by omega
   obtain ⟨hB1,hL1,hS1⟩:=hL.out
   have hLe:L=fixL np n A B b:=hS1
   have HB:Hid (BBlk wr g (fixL np n A B b)):=(show BBlk wr g _ from hLe ▸ hB1)
   have Hc:=Lib.hid hcw
   clear hB1 hL1 hS1 hL hLe hcr hcw t0 t1 t2 t3
   go_wp2
   go_ret
   exact ⟨Hc.out,_,by omega,rfl,HB.out⟩
end
end Go.Proofs.YtkgfdgfhpdhhaaaGreat
namespace Go.Proofs.YtkgfdgfhpdhhaaaGreat
open Go.ChangeShapes Go.WideShapes Go.RowKit
attribute [local go_sem] Oper.semAt_some
set_option maxRecDepth 100000
set_option maxHeartbeats 4000000
section
variable {w : World} {ao : Option Addr} {l : List Int} {c k : Nat} {caps : Array Value} {s : Int → Bool}
theorem index_ints (hl:l.length≤2000000) (h:IRow w ao l) (hent:∀ args w,(callFunc k args).run Tryz.prog w = .ok (.enter k args) w) (hs:∀ (i:Nat) x,l[i]? = some x→∀ W,Chg Nob w W→Calls Tryz.prog k (#[.int .i64 x]++caps) W fun e W'=>e = .returned (.bool (s x))∧Chg Nob W W') :
 Calls Tryz.prog 66 #[.slice ao l.length c,.func (.func k) #[] caps] w fun e w'=>(∃ r:Int,e = .returned (.int .i64 r)∧(decide (0≤r)=l.any s))∧Chg Nob w w':=by
 have H:=Lib.hid h
 have Hs:=Lib.hid hs
 clear h hs
 go_enter Tryz.func66,Tryz.ntmps66
 go_wp2_with fail
 go_loopw [8] (fun iv wr=>∃ i:Nat,iv = .int .i64 (i:Int)∧i≤l.length∧Hid (∀ j x,j < i→l[j]? = some x→s x=false)∧Hid (Chg Nob w wr)) (fun iv _=>l.length - (intOf iv).toNat)
 case atStart=>exact ⟨0,rfl,Nat.zero_le _,(by show ∀ j x,j < 0→_;intro j x hj;omega),Chg.refl _ _⟩
 case round =>
  obtain ⟨i,rfl,hi,Hno,Hc⟩:=hrel
  by_cases hlt:i < l.length
  ·obtain ⟨x,hx⟩:∃ x,l[i]? = some x:=⟨_,List.getElem?_eq_getElem hlt⟩
   obtain ⟨a,rfl,hcell⟩:=H.out i x hx
   have hcell2:=Hc.out.cell' hcell (fun e=>e)
   have hii:(i:Int) < (l.length:Int):=by omega
   have hi0:(0:Int)≤(i:Int):=by omega
   have Hx:=Lib.hid hx
   have hp:=Hs.out i x hx wr Hc.out
   clear hcell
   clear hx
   go_wp2_with fail
   (with_reducible refine hp.mono ?_)
   clear hp hcell2
   rintro e w3 ⟨rfl,hc3⟩
   have Hc3:Hid (Chg Nob w w3):=Lib.hid (Hc.out.trans1 hc3)
   clear hc3
   cases hd:s x with
   | true =>
     have Hr:Hid (l.any s=true):=Lib.hid (List.any_eq_true.2 ⟨x,List.mem_of_getElem? Hx.out,hd⟩)
     go_wp2_with fail
     go_ret
     exact ⟨⟨i,rfl,by rw [Hr.out];exact decide_eq_true hi0⟩,Hc3.out⟩
   | false =>
     have Hno2:Hid (∀ j x,j < i+1→l[j]? = some x→s x=false):=(show ∀ j x,j < i+1→l[j]? = some x→s x=false by
      intro j y hj hy
      by_cases e:j=i
      ·subst e;rw [Hx.out] at hy;cases hy;exact hd
      ·exact Hno.out j y (by omega) hy)
     go_wp2_with fail
     go_roundw
     case rel=>exact ⟨i+1,by go_num,by omega,Hno2,Hc3⟩
     case measure=>simp [intOf];omega
  ·obtain rfl:i=l.length:=by omega
   have Hr:Hid (l.any s=false):=(show l.any s=false by
    rw [List.any_eq_false]
    intro x hx
    obtain ⟨j,hj,rfl⟩:=List.mem_iff_getElem.1 hx
    rw [Hno.out j _ hj (List.getElem?_eq_getElem hj)]
    exact Bool.false_ne_true)
   go_wp2_with fail
   go_ret
   exact ⟨⟨-1,rfl,by rw [Hr.out];rfl⟩,Hc.out⟩
theorem contains_ints (hl:l.length≤2000000) (h:IRow w ao l) (hent:∀ args w,(callFunc k args).run Tryz.prog w = .ok (.enter k args) w) (hs:∀ (i:Nat) x,l[i]? = some x→∀ W,Chg Nob w W→Calls Tryz.prog k (#[.int .i64 x]++caps) W fun e W'=>e = .returned (.bool (s x))∧Chg Nob W W') :
 Calls Tryz.prog 37 #[.slice ao l.length c,.func (.func k) #[] caps] w fun e w'=>e = .returned (.bool (l.any s))∧Chg Nob w w':=by
 have hp:=index_ints (c:=c) hl h hent hs
 clear h hs
 go_enter Tryz.func37,Tryz.ntmps37
 go_wp2_with fail
 (with_reducible refine hp.mono ?_)
 clear hp
 rintro e w' ⟨⟨r,rfl,hr⟩,hc⟩
 go_wp2_with fail
 go_ret
 exact ⟨by rw [← hr];rfl,hc⟩
end
section
variable {w : World} {ao : Option Addr} {l : List Mvi} {c k : Nat} {caps : Array Value} {s : Mvi → Bool}
theorem index_moves (hl:l.length≤2000000) (h:MRow w ao l) (hent:∀ args w,(callFunc k args).run Tryz.prog w = .ok (.enter k args) w) (hs:∀ (i:Nat) x,l[i]? = some x→∀ W,Chg Nob w W→∀ at' ct,IRow W at' x.to→x.to.length≤2000000→Calls Tryz.prog k (#[.agg #[.int .u64 x.yes,.int .u64 x.no,.slice at' x.to.length ct]]++caps) W fun e W'=>e = .returned (.bool (s x))∧Chg Nob W W') :
 Calls Tryz.prog 65 #[.slice ao l.length c,.func (.func k) #[] caps] w fun e w'=>(∃ r:Int,e = .returned (.int .i64 r)∧(decide (0≤r)=l.any s))∧Chg Nob w w':=by
 have H:=Lib.hid h
 have Hs:=Lib.hid hs
 clear h hs
 go_enter Tryz.func65,Tryz.ntmps65
 go_wp2_with fail
 go_loopw [8] (fun iv wr=>∃ i:Nat,iv = .int .i64 (i:Int)∧i≤l.length∧Hid (∀ j x,j < i→l[j]? = some x→s x=false)∧Hid (Chg Nob w wr)) (fun iv _=>l.length - (intOf iv).toNat)
 case atStart=>exact ⟨0,rfl,Nat.zero_le _,(by show ∀ j x,j < 0→_;intro j x hj;omega),Chg.refl _ _⟩
 case round =>
  obtain ⟨i,rfl,hi,Hno,Hc⟩:=hrel
  by_cases hlt:i < l.length
  ·obtain ⟨x,hx⟩:∃ x,l[i]? = some x:=⟨_,List.getElem?_eq_getElem hlt⟩
   obtain ⟨b,o,at',ct,rfl,hy,hno,hto,htl,htr⟩:=H.out i x hx
   have hy2:=Hc.out.cell' hy (fun e=>e)
   have hno2:=Hc.out.cell' hno (fun e=>e)
   have hto2:=Hc.out.cell' hto (fun e=>e)
   have hii:(i:Int) < (l.length:Int):=by omega
   have hi0:(0:Int)≤(i:Int):=by omega
   have Hx:=Lib.hid hx
   have hp:=Hs.out i x hx wr Hc.out at' ct (htr.nob Hc.out) htl
   clear hy hno hto htr
   clear hx
   go_wp2_with fail
   (with_reducible refine hp.mono ?_)
   clear hp hy2 hno2 hto2
   rintro e w3 ⟨rfl,hc3⟩
   have Hc3:Hid (Chg Nob w w3):=Lib.hid (Hc.out.trans1 hc3)
   clear hc3
   cases hd:s x with
   | true =>
     have Hr:Hid (l.any s=true):=Lib.hid (List.any_eq_true.2 ⟨x,List.mem_of_getElem? Hx.out,hd⟩)
     go_wp2_with fail
     go_ret
     exact ⟨⟨i,rfl,by rw [Hr.out];exact decide_eq_true hi0⟩,Hc3.out⟩
   | false =>
     have Hno2:Hid (∀ j x,j < i+1→l[j]? = some x→s x=false):=(show ∀ j x,j < i+1→l[j]? = some x→s x=false by
      intro j y hj hy
      by_cases e:j=i
      ·subst e;rw [Hx.out] at hy;cases hy;exact hd
      ·exact Hno.out j y (by omega) hy)
     go_wp2_with fail
     go_roundw
     case rel=>exact ⟨i+1,by go_num,by omega,Hno2,Hc3⟩
     case measure=>simp [intOf];omega
  ·obtain rfl:i=l.length:=by omega
   have Hr:Hid (l.any s=false):=(show l.any s=false by
    rw [List.any_eq_false]
    intro x hx
    obtain ⟨j,hj,rfl⟩:=List.mem_iff_getElem.1 hx
    rw [Hno.out j _ hj (List.getElem?_eq_getElem hj)]
    exact Bool.false_ne_true)
   go_wp2_with fail
   go_ret
   exact ⟨⟨-1,rfl,by rw [Hr.out];rfl⟩,Hc.out⟩
theorem contains_moves (hl:l.length≤2000000) (h:MRow w ao l) (hent:∀ args w,(callFunc k args).run Tryz.prog w = .ok (.enter k args) w) (hs:∀ (i:Nat) x,l[i]? = some x→∀ W,Chg Nob w W→∀ at' ct,IRow W at' x.to→x.to.length≤2000000→Calls Tryz.prog k (#[.agg #[.int .u64 x.yes,.int .u64 x.no,.slice at' x.to.length ct]]++caps) W fun e W'=>e = .returned (.bool (s x))∧Chg Nob W W') :
 Calls Tryz.prog 34 #[.slice ao l.length c,.func (.func k) #[] caps] w fun e w'=>e = .returned (.bool (l.any s))∧Chg Nob w w':=by
 have hp:=index_moves (c:=c) hl h hent hs
 clear h hs
 go_enter Tryz.func34,Tryz.ntmps34
 go_wp2_with fail
 (with_reducible refine hp.mono ?_)
 clear hp
 rintro e w' ⟨⟨r,rfl,hr⟩,hc⟩
 go_wp2_with fail
 go_ret
 exact ⟨by rw [← hr];rfl,hc⟩
end
section
variable {w : World} {ao : Option Addr} {l : List (List Int)} {c k : Nat} {caps : Array Value} {s : (List Int) → Bool}
theorem index_sets (hl:l.length≤2000000) (h:LRow w ao l) (hent:∀ args w,(callFunc k args).run Tryz.prog w = .ok (.enter k args) w) (hs:∀ (i:Nat) x,l[i]? = some x→∀ W,Chg Nob w W→∀ at' ct,IRow W at' x→x.length≤2000000→Calls Tryz.prog k (#[.slice at' x.length ct]++caps) W fun e W'=>e = .returned (.bool (s x))∧Chg Nob W W') :
 Calls Tryz.prog 67 #[.slice ao l.length c,.func (.func k) #[] caps] w fun e w'=>(∃ r:Int,e = .returned (.int .i64 r)∧(decide (0≤r)=l.any s))∧Chg Nob w w':=by
 have H:=Lib.hid h
 have Hs:=Lib.hid hs
 clear h hs
 go_enter Tryz.func67,Tryz.ntmps67
 go_wp2_with fail
 go_loopw [8] (fun iv wr=>∃ i:Nat,iv = .int .i64 (i:Int)∧i≤l.length∧Hid (∀ j x,j < i→l[j]? = some x→s x=false)∧Hid (Chg Nob w wr)) (fun iv _=>l.length - (intOf iv).toNat)
 case atStart=>exact ⟨0,rfl,Nat.zero_le _,(by show ∀ j x,j < 0→_;intro j x hj;omega),Chg.refl _ _⟩
 case round =>
  obtain ⟨i,rfl,hi,Hno,Hc⟩:=hrel
  by_cases hlt:i < l.length
  ·obtain ⟨x,hx⟩:∃ x,l[i]? = some x:=⟨_,List.getElem?_eq_getElem hlt⟩
   obtain ⟨a,at',ct,rfl,hcell,htl,htr⟩:=H.out i x hx
   have hcell2:=Hc.out.cell' hcell (by unfold Addr.add;split <;> exact fun e=>e)
   have hii:(i:Int) < (l.length:Int):=by omega
   have hi0:(0:Int)≤(i:Int):=by omega
   have Hx:=Lib.hid hx
   have hp:=Hs.out i x hx wr Hc.out at' ct (htr.nob Hc.out) htl
   clear hcell htr
   clear hx
   go_wp2_with fail
   (with_reducible refine hp.mono ?_)
   clear hp hcell2
   rintro e w3 ⟨rfl,hc3⟩
   have Hc3:Hid (Chg Nob w w3):=Lib.hid (Hc.out.trans1 hc3)
   clear hc3
   cases hd:s x with
   | true =>
     have Hr:Hid (l.any s=true):=Lib.hid (List.any_eq_true.2 ⟨x,List.mem_of_getElem? Hx.out,hd⟩)
     go_wp2_with fail
     go_ret
     exact ⟨⟨i,rfl,by rw [Hr.out];exact decide_eq_true hi0⟩,Hc3.out⟩
   | false =>
     have Hno2:Hid (∀ j x,j < i+1→l[j]? = some x→s x=false):=(show ∀ j x,j < i+1→l[j]? = some x→s x=false by
      intro j y hj hy
      by_cases e:j=i
      ·subst e;rw [Hx.out] at hy;cases hy;exact hd
      ·exact Hno.out j y (by omega) hy)
     go_wp2_with fail
     go_roundw
     case rel=>exact ⟨i+1,by go_num,by omega,Hno2,Hc3⟩
     case measure=>simp [intOf];omega
  ·obtain rfl:i=l.length:=by omega
   have Hr:Hid (l.any s=false):=(show l.any s=false by
    rw [List.any_eq_false]
    intro x hx
    obtain ⟨j,hj,rfl⟩:=List.mem_iff_getElem.1 hx
    rw [Hno.out j _ hj (List.getElem?_eq_getElem hj)]
    exact Bool.false_ne_true)
   go_wp2_with fail
   go_ret
   exact ⟨⟨-1,rfl,by rw [Hr.out];rfl⟩,Hc.out⟩
theorem contains_sets (hl:l.length≤2000000) (h:LRow w ao l) (hent:∀ args w,(callFunc k args).run Tryz.prog w = .ok (.enter k args) w) (hs:∀ (i:Nat) x,l[i]? = some x→∀ W,Chg Nob w W→∀ at' ct,IRow W at' x→x.length≤2000000→Calls Tryz.prog k (#[.slice at' x.length ct]++caps) W fun e W'=>e = .returned (.bool (s x))∧Chg Nob W W') :
 Calls Tryz.prog 39 #[.slice ao l.length c,.func (.func k) #[] caps] w fun e w'=>e = .returned (.bool (l.any s))∧Chg Nob w w':=by
 have hp:=index_sets (c:=c) hl h hent hs
 clear h hs
 go_enter Tryz.func39,Tryz.ntmps39
 go_wp2_with fail
 (with_reducible refine hp.mono ?_)
 clear hp
 rintro e w' ⟨⟨r,rfl,hr⟩,hc⟩
 go_wp2_with fail
 go_ret
 exact ⟨by rw [← hr];rfl,hc⟩
end
theorem anext_any {w:World} {wb lb:Nat} {ww:Option Addr} {n cw:Nat} {ap al:Option Addr} {np cp nl cl:Nat} (h1:w.cell? ⟨wb,0,none⟩=some (.slice ww n cw)) (h2:w.cell? ⟨lb,0,none⟩=some (.slice ap np cp)) (hn:n≤10000) (i:Nat) (hi:i < n) :
 Calls Tryz.prog 33 #[.int .i64 (i:Int),.pointer (some ⟨wb,0,none⟩),.pointer (some ⟨lb,0,none⟩)] w fun e w'=>e = .returned (.int .i64 (nextN np n i:Nat))∧w'=w:=by
 have _:=al;have _:=nl;have _:=cl
 go_enter Tryz.func33,Tryz.ntmps33
 by_cases h:i+1=n
 ·have hi1:(i:Int)+1=(n:Int):=by omega
  have e:nextN np n i=np:=if_pos h
  rw [e]
  go_wp2_with fail
  go_ret
  exact ⟨rfl,rfl⟩
 ·have hi1:¬ (i:Int)+1=(n:Int):=by omega
  have hi2:((i:Int)+1==(n:Int))=false:=beq_eq_false_iff_ne.2 hi1
  have hi3:decide ((i:Int)+1=(n:Int))=false:=decide_eq_false hi1
  have e:nextN np n i=i+1:=if_neg h
  rw [e]
  go_wp2_with fail
  go_ret
  exact ⟨by rw [Int.natCast_add];rfl,rfl⟩
def hasI (yes no x:Int):Bool:=(bits .and .u64 x yes==yes)&&(bits .and .u64 x no==0)
theorem ahas_any (w:World) (yes no x:Int):Calls Tryz.prog 36 #[.agg #[.int .u64 yes,.int .u64 no],.int .u64 x] w fun e w'=>e = .returned (.bool (hasI yes no x))∧Chg Nob w w':=by
 obtain ⟨X,hX,hcX,hb,_⟩:=box_cells w #[.int .u64 yes,.int .u64 no] 72
 obtain ⟨c0,c1,_⟩:=cell_two hb
 rw [hX] at c0 c1
 obtain ⟨y,hy⟩:∃ y,bits .and .u64 x yes=y:=⟨_,rfl⟩
 obtain ⟨z,hz⟩:∃ z,bits .and .u64 x no=z:=⟨_,rfl⟩
 have e:hasI yes no x=((y==yes)&&(z==0)):=by unfold hasI;rw [hy,hz]
 rw [e]
 go_enter Tryz.func36,Tryz.ntmps36
 cases h1:(y==yes) with
 | true =>
   go_wp2_with fail
   go_ret
   exact ⟨rfl,by rw [← hX];exact hcX⟩
 | false =>
   go_wp2_with fail
   go_ret
   exact ⟨rfl,by rw [← hX];exact hcX⟩
theorem getDb_some {A:List Bool} {i:Nat} (h:i < A.length):A[i]? = some (A.getD i false):=by rw [List.getD_eq_getElem?_getD,List.getElem?_eq_getElem h];rfl
structure RunsW (W:World) (rb gr ns:Nat) (gs:List Nat) (rows:List (List Bool)) (n:Nat):Prop where
 box:W.cell? ⟨rb,0,none⟩=some (.slice (some ⟨gr,0,none⟩) ns ns)
 len:gs.length=rows.length
 le:rows.length≤ns
 row:∀ (k g:Nat) (r:List Bool),gs[k]? = some g→rows[k]? = some r→W.cell? ⟨gr,k,none⟩=some (.slice (some ⟨g,0,none⟩) n n)∧BBlk W g r∧r.length=n
theorem RunsW.nob {W W':World} {rb gr ns:Nat} {gs:List Nat} {rows:List (List Bool)} {n:Nat} (h:RunsW W rb gr ns gs rows n) (hc:Chg Nob W W'):RunsW W' rb gr ns gs rows n :=
 ⟨hc.cell' h.box (fun e=>e),h.len,h.le,fun k g r h1 h2=>by
  obtain ⟨a,b,c⟩:=h.row k g r h1 h2
  exact ⟨hc.cell' a (fun e=>e),b.chg hc (fun e=>e),c⟩⟩
theorem RunsW.at {W:World} {rb gr ns:Nat} {gs:List Nat} {rows:List (List Bool)} {n:Nat} (h:RunsW W rb gr ns gs rows n) {k:Nat} (hk:k < rows.length):∃ g,W.cell? ⟨gr,k,none⟩=some (.slice (some ⟨g,0,none⟩) n n)∧BBlk W g (rows.getD k [])∧(rows.getD k []).length=n:=by
 have hg:k < gs.length:=by rw [h.len];exact hk
 obtain ⟨a,b,c⟩:=h.row k gs[k] (rows.getD k []) (List.getElem?_eq_getElem hg) (by rw [List.getD_eq_getElem?_getD,List.getElem?_eq_getElem hk];rfl)
 exact ⟨_,a,b,c⟩
section
variable {w : World} {rb gr ns n : Nat} {gs : List Nat} {rows : List (List Bool)}
theorem arun0_any (h:RunsW w rb gr ns gs rows n) (_hns:ns≤10000) (hn:0 < n) (hn2:n≤10000) (k:Nat) (hk:k < rows.length):Calls Tryz.prog 41 #[.int .i64 (k:Int),.pointer (some ⟨rb,0,none⟩)] w fun e w'=>e = .returned (.bool (!((rows.getD k []).getD 0 false)))∧Chg Nob w w':=by
 obtain ⟨g,hc,hb,hl⟩:=h.at hk
 have hbox:=h.box
 have hcell:=hb.cell (j:=0) (x:=(rows.getD k []).getD 0 false) (getDb_some (by omega))
 have hki:(k:Int) < (ns:Int):=by have:=h.le;omega
 have hk0:(0:Int)≤(k:Int):=by omega
 have hni:(0:Int) < (n:Int):=by omega
 obtain ⟨x,hx⟩:∃ x,x=(rows.getD k []).getD 0 false:=⟨_,rfl⟩
 rw [← hx] at hcell ⊢
 clear h hb hl hx hk
 go_enter Tryz.func41,Tryz.ntmps41
 go_wp2_with fail
 go_ret
 exact ⟨rfl,Chg.refl _ _⟩
def allR (rows:List (List Bool)) (l:List Int) (i:Nat):Bool:=!(l.any fun k=>!((rows.getD k.toNat []).getD i false))
theorem aall0_any {at':Option Addr} {ct:Nat} {l:List Int} (h:RunsW w rb gr ns gs rows n) (hns:ns≤10000) (hn:0 < n) (hn2:n≤10000) (hl:IRow w at' l) (hll:l.length≤2000000) (hk:∀ x∈l,0≤x∧x < (rows.length:Int)):Calls Tryz.prog 40 #[.slice at' l.length ct,.pointer (some ⟨rb,0,none⟩)] w fun e w'=>e = .returned (.bool (allR rows l 0))∧Chg Nob w w':=by
 have hp:=contains_ints (c:=ct) (k:=41) (caps:=#[.pointer (some ⟨rb,0,none⟩)]) (s:=fun k=>!((rows.getD k.toNat []).getD 0 false)) hll hl (enters_of Tryz.func41 (by kernel_rfl) rfl) (fun i x hx W hW=>by
  obtain ⟨h0,h1⟩:=hk x (List.mem_of_getElem? hx)
  obtain ⟨m,rfl⟩:∃ m:Nat,x=(m:Int):=⟨x.toNat,by omega⟩
  rw [Int.toNat_natCast]
  exact arun0_any (h.nob hW) hns hn hn2 m (by omega))
 clear h hl hk
 go_enter Tryz.func40,Tryz.ntmps40
 go_wp2_with fail
 (with_reducible refine hp.mono ?_)
 clear hp
 rintro e w' ⟨rfl,hc⟩
 go_wp2_with fail
 go_ret
 exact ⟨rfl,hc⟩
structure AccW (W:World) (wb lb nb ib:Nat) (ww:Option Addr) (cw:Nat) (M:List Int) (ap:Option Addr) (np cp:Nat) (i:Nat):Prop where
 word:W.cell? ⟨wb,0,none⟩=some (.slice ww M.length cw)
 las:W.cell? ⟨lb,0,none⟩=some (.slice ap np cp)
 next:W.cell? ⟨nb,0,none⟩=some (.func (.func 33) #[] #[.pointer (some ⟨wb,0,none⟩),.pointer (some ⟨lb,0,none⟩)])
 place:W.cell? ⟨ib,0,none⟩=some (.int .i64 (i:Int))
 letters:URow W ww M
theorem AccW.nob {W W':World} {wb lb nb ib:Nat} {ww:Option Addr} {cw:Nat} {M:List Int} {ap:Option Addr} {np cp i:Nat} (h:AccW W wb lb nb ib ww cw M ap np cp i) (hc:Chg Nob W W'):AccW W' wb lb nb ib ww cw M ap np cp i :=
 ⟨hc.cell' h.word (fun e=>e),hc.cell' h.las (fun e=>e),hc.cell' h.next (fun e=>e),hc.cell' h.place (fun e=>e),h.letters.nob hc⟩
variable {wb lb nb ib : Nat} {ww : Option Addr} {cw : Nat} {M : List Int} {ap : Option Addr} {np cp i : Nat}
theorem arun_any (h:RunsW w rb gr ns gs rows M.length) (hA:AccW w wb lb nb ib ww cw M ap np cp i) (_hns:ns≤10000) (hM:M.length≤10000) (hi:i < M.length) (hnp:np < M.length) (k:Nat) (hk:k < rows.length) :
 Calls Tryz.prog 38 #[.int .i64 (k:Int),.pointer (some ⟨rb,0,none⟩),.pointer (some ⟨nb,0,none⟩),.pointer (some ⟨ib,0,none⟩)] w fun e w'=>e = .returned (.bool (!((rows.getD k []).getD (nextN np M.length i) false)))∧Chg Nob w w':=by
 obtain ⟨g,hc,hb,hl⟩:=h.at hk
 have hbox:=h.box
 obtain ⟨j,hj⟩:∃ j,j=nextN np M.length i:=⟨_,rfl⟩
 have hjl:j < M.length:=by rw [hj];unfold nextN;split <;> omega
 rw [← hj]
 have hcell:=hb.cell (j:=j) (x:=(rows.getD k []).getD j false) (getDb_some (by omega))
 have hki:(k:Int) < (ns:Int):=by have:=h.le;omega
 have hk0:(0:Int)≤(k:Int):=by omega
 have hji:(j:Int) < (M.length:Int):=by omega
 have hj0:(0:Int)≤(j:Int):=by omega
 obtain ⟨x,hx⟩:∃ x,x=(rows.getD k []).getD j false:=⟨_,rfl⟩
 rw [← hx] at hcell ⊢
 have hp:∀ W,Chg Nob w W→Calls Tryz.prog 33 #[.int .i64 (i:Int),.pointer (some ⟨wb,0,none⟩),.pointer (some ⟨lb,0,none⟩)] W fun e w'=>e = .returned (.int .i64 (j:Int))∧w'=W:=fun W hW=>by
  rw [hj];exact anext_any (al:=none) (nl:=0) (cl:=0) (hW.cell' hA.word (fun e=>e)) (hW.cell' hA.las (fun e=>e)) hM i hi
 have Hp:=Lib.hid hp
 have e0:=hA.next
 have e1:=hA.place
 have HS:Hid (∀ w',Chg Nob w w'→w'.cell? ⟨rb,0,none⟩=some (.slice (some ⟨gr,0,none⟩) ns ns)∧w'.cell? ⟨gr,k,none⟩=some (.slice (some ⟨g,0,none⟩) M.length M.length)∧w'.cell? ⟨g,j,none⟩=some (.bool x)∧w'.cell? ⟨nb,0,none⟩=some (.func (.func 33) #[] #[.pointer (some ⟨wb,0,none⟩),.pointer (some ⟨lb,0,none⟩)])∧w'.cell? ⟨ib,0,none⟩=some (.int .i64 (i:Int))):=Lib.hid (fun w' hh=>⟨hh.cell' hbox (fun e=>e),hh.cell' hc (fun e=>e),hh.cell' hcell (fun e=>e),hh.cell' e0 (fun e=>e),hh.cell' e1 (fun e=>e)⟩)
 clear h hb hl hx hk hp hA hj hjl
 go_enter Tryz.func38,Tryz.ntmps38
 go_wp2_with fail
 refine wp_region_free (fun _=>true) (fun w'=>w'.cell? ⟨rb,0,none⟩=some (.slice (some ⟨gr,0,none⟩) ns ns)∧w'.cell? ⟨gr,k,none⟩=some (.slice (some ⟨g,0,none⟩) M.length M.length)∧w'.cell? ⟨g,j,none⟩=some (.bool x)∧w'.cell? ⟨nb,0,none⟩=some (.func (.func 33) #[] #[.pointer (some ⟨wb,0,none⟩),.pointer (some ⟨lb,0,none⟩)])∧w'.cell? ⟨ib,0,none⟩=some (.int .i64 (i:Int))) (by kernel_rfl) ⟨hbox,hc,hcell,e0,e1⟩ (fun hHeld=>?_)
 refine tkG 0 hHeld ?_
 refine tkG 1 hHeld ?_
 refine tkG 2 hHeld ?_
 refine tkG 3 hHeld ?_
 refine tkG 4 hHeld ?_
 refine tkG 5 hHeld ?_
 refine rdG 6 fun K hK=>?_
 go_simp
 (with_reducible refine (Hp.out _ (((Chg.refl Nob w).drew))).mono ?_)
 rintro e v1 ⟨rfl,hc5⟩
 have Hv1:Hid (Chg Nob w v1):=Lib.hid (hc5 ▸ (((Chg.refl Nob w).drew)))
 clear hc5
 refine hK.out _ _ (fun _=>HS.out _ Hv1.out) ?_
 clear hK K
 try simp only [Act.put]
 refine tkG 7 (HS.out _ Hv1.out) ?_
 refine tkG 8 (HS.out _ Hv1.out) ?_
 refine tkG 9 (HS.out _ Hv1.out) ?_
 refine tkG 10 (HS.out _ Hv1.out) ?_
 refine wpAnyG_done (by kernel_rfl) ?_ _
 go_simp
 go_wp2_with fail
 go_ret
 exact ⟨rfl,Hv1.out⟩
theorem amove_any {at':Option Addr} {ct:Nat} {m:Mvi} (h:RunsW w rb gr ns gs rows M.length) (hA:AccW w wb lb nb ib ww cw M ap np cp i) (hns:ns≤10000) (hM:M.length≤10000) (hi:i < M.length) (hnp:np < M.length) (hl:IRow w at' m.to) (hll:m.to.length≤2000000) (hk:∀ x∈m.to,0≤x∧x < (rows.length:Int)) :
 Calls Tryz.prog 35 #[.agg #[.int .u64 m.yes,.int .u64 m.no,.slice at' m.to.length ct],.pointer (some ⟨wb,0,none⟩),.pointer (some ⟨ib,0,none⟩),.pointer (some ⟨rb,0,none⟩),.pointer (some ⟨nb,0,none⟩)] w fun e w'=>e = .returned (.bool (hasI m.yes m.no (M.getD i 0)&&allR rows m.to (nextN np M.length i)))∧Chg Nob w w':=by
 obtain ⟨X,hX,hcX,hbX,hsX⟩:=box_cells w #[.int .u64 m.yes,.int .u64 m.no,.slice at' m.to.length ct] 75
 obtain ⟨x,hx⟩:∃ x,M[i]? = some x:=⟨_,List.getElem?_eq_getElem hi⟩
 have hxd:M.getD i 0=x:=by rw [List.getD_eq_getElem?_getD,hx];rfl
 rw [hxd]
 obtain ⟨aw,rfl,hxc⟩:=hA.letters i x hx
 obtain ⟨g0,g1,g2,_⟩:=cells_three hbX
 have hii:(i:Int) < (M.length:Int):=by omega
 have hi0:(0:Int)≤(i:Int):=by omega
 have hp1:∀ W,Calls Tryz.prog 36 #[.agg #[.int .u64 m.yes,.int .u64 m.no],.int .u64 x] W fun e w'=>e = .returned (.bool (hasI m.yes m.no x))∧Chg Nob W w':=fun W=>ahas_any W m.yes m.no x
 have hp2:∀ W,Chg Nob w W→Calls Tryz.prog 37 #[.slice at' m.to.length ct,.func (.func 38) #[] #[.pointer (some ⟨rb,0,none⟩),.pointer (some ⟨nb,0,none⟩),.pointer (some ⟨ib,0,none⟩)]] W fun e w'=>e = .returned (.bool (m.to.any fun k=>!((rows.getD k.toNat []).getD (nextN np M.length i) false)))∧Chg Nob W w':=fun W hW =>
  contains_ints (c:=ct) (k:=38) (caps:=#[.pointer (some ⟨rb,0,none⟩),.pointer (some ⟨nb,0,none⟩),.pointer (some ⟨ib,0,none⟩)]) (s:=fun k=>!((rows.getD k.toNat []).getD (nextN np M.length i) false)) hll (hl.nob hW) (enters_of Tryz.func38 (by kernel_rfl) rfl) (fun j x hx V hV=>by
   obtain ⟨h0,h1⟩:=hk x (List.mem_of_getElem? hx)
   obtain ⟨q,rfl⟩:∃ q:Nat,x=(q:Int):=⟨x.toNat,by omega⟩
   rw [Int.toNat_natCast]
   exact arun_any (h.nob (hW.trans1 hV)) (hA.nob (hW.trans1 hV)) hns hM hi hnp q (by omega))
 have Hp1:=Lib.hid hp1
 have Hp2:=Lib.hid hp2
 have HcX:=Lib.hid hcX
 have HS:Hid (∀ w',Chg Nob X w'→w'.cell? ⟨w.heap.size,0,none⟩=some (.int .u64 m.yes)∧w'.cell? ⟨w.heap.size,1,none⟩=some (.int .u64 m.no)∧w'.cell? ⟨w.heap.size,2,none⟩=some (.slice at' m.to.length ct)∧w'.cell? ⟨wb,0,none⟩=some (.slice (some aw) M.length cw)∧w'.cell? ⟨ib,0,none⟩=some (.int .i64 (i:Int))∧w'.cell? (aw.add i)=some (.int .u64 x)):=Lib.hid (fun w' hh=>⟨hh.cell' g0 (fun e=>e),hh.cell' g1 (fun e=>e),hh.cell' g2 (fun e=>e),(hcX.trans1 hh).cell' hA.word (fun e=>e),(hcX.trans1 hh).cell' hA.place (fun e=>e),(hcX.trans1 hh).cell' hxc (fun e=>e)⟩)
 clear h hA hl hk hp1 hp2 hx hxd hxc hbX g0 g1 g2 hcX hsX
 go_enter Tryz.func35,Tryz.ntmps35
 go_wp2_with fail
 rw [← hX]
 clear hX
 obtain ⟨g0,g1,g2,e0,e1,e2⟩:=HS.out X (Chg.refl _ _)
 cases hh:hasI m.yes m.no x with
 | true =>
   rw [hh] at Hp1
   refine wp_region_free (fun _=>true) (fun w'=>w'.cell? ⟨w.heap.size,0,none⟩=some (.int .u64 m.yes)∧w'.cell? ⟨w.heap.size,1,none⟩=some (.int .u64 m.no)∧w'.cell? ⟨w.heap.size,2,none⟩=some (.slice at' m.to.length ct)∧w'.cell? ⟨wb,0,none⟩=some (.slice (some aw) M.length cw)∧w'.cell? ⟨ib,0,none⟩=some (.int .i64 (i:Int))∧w'.cell? (aw.add i)=some (.int .u64 x)) (by kernel_rfl) ⟨g0,g1,g2,e0,e1,e2⟩ (fun hHeld=>?_)
   refine tkG 0 hHeld ?_
   refine tkG 1 hHeld ?_
   refine tkG 2 hHeld ?_
   refine tkG 3 hHeld ?_
   refine tkG 4 hHeld ?_
   refine tkG 5 hHeld ?_
   refine rdG 6 fun K hK=>?_
   go_simp
   (with_reducible refine (Hp1.out _).mono ?_)
   rintro e v1 ⟨rfl,hc5⟩
   have Hv1:Hid (Chg Nob X v1):=Lib.hid ((((Chg.refl Nob X).drew)).trans1 hc5)
   clear hc5
   refine hK.out _ _ (fun _=>HS.out _ Hv1.out) ?_
   clear hK K
   try simp only [Act.put]
   refine tkG 7 (HS.out _ Hv1.out) ?_
   refine tkG 8 (HS.out _ Hv1.out) ?_
   refine tkG 9 (HS.out _ Hv1.out) ?_
   refine tkG 10 (HS.out _ Hv1.out) ?_
   refine rdG 11 fun K hK=>?_
   go_simp
   (with_reducible refine (Hp2.out _ (HcX.out.trans1 Hv1.out)).mono ?_)
   rintro e v2 ⟨rfl,hc5⟩
   have Hv2:Hid (Chg Nob X v2):=Lib.hid ((Hv1.out).trans1 hc5)
   clear hc5
   refine hK.out _ _ (fun _=>HS.out _ Hv2.out) ?_
   clear hK K
   try simp only [Act.put]
   refine tkG 12 (HS.out _ Hv2.out) ?_
   refine tkG 13 (HS.out _ Hv2.out) ?_
   refine tkG 14 (HS.out _ Hv2.out) ?_
   refine wpAnyG_done (by kernel_rfl) ?_ _
   go_simp
   go_wp2_with fail
   go_ret
   exact ⟨by rw [hh];rfl,HcX.out.trans1 Hv2.out⟩
 | false =>
   rw [hh] at Hp1
   refine wp_region_free (fun _=>true) (fun w'=>w'.cell? ⟨w.heap.size,0,none⟩=some (.int .u64 m.yes)∧w'.cell? ⟨w.heap.size,1,none⟩=some (.int .u64 m.no)∧w'.cell? ⟨w.heap.size,2,none⟩=some (.slice at' m.to.length ct)∧w'.cell? ⟨wb,0,none⟩=some (.slice (some aw) M.length cw)∧w'.cell? ⟨ib,0,none⟩=some (.int .i64 (i:Int))∧w'.cell? (aw.add i)=some (.int .u64 x)) (by kernel_rfl) ⟨g0,g1,g2,e0,e1,e2⟩ (fun hHeld=>?_)
   refine tkG 0 hHeld ?_
   refine tkG 1 hHeld ?_
   refine tkG 2 hHeld ?_
   refine tkG 3 hHeld ?_
   refine tkG 4 hHeld ?_
   refine tkG 5 hHeld ?_
   refine rdG 6 fun K hK=>?_
   go_simp
   (with_reducible refine (Hp1.out _).mono ?_)
   rintro e v1 ⟨rfl,hc5⟩
   have Hv1:Hid (Chg Nob X v1):=Lib.hid ((((Chg.refl Nob X).drew)).trans1 hc5)
   clear hc5
   refine hK.out _ _ (fun _=>HS.out _ Hv1.out) ?_
   clear hK K
   try simp only [Act.put]
   refine tkG 7 (HS.out _ Hv1.out) ?_
   refine wpAnyG_take (i:=8) (v:=undef) rfl (by kernel_rfl) (fun _ _ _ h=>h) (Or.inr ⟨by kernel_rfl,rfl⟩) (HS.out _ Hv1.out) ?_
   try simp only [Act.put]
   refine wpAnyG_take (i:=9) (v:=undef) rfl (by kernel_rfl) (fun _ _ _ h=>h) (Or.inr ⟨by kernel_rfl,rfl⟩) (HS.out _ Hv1.out) ?_
   try simp only [Act.put]
   refine wpAnyG_take (i:=10) (v:=undef) rfl (by kernel_rfl) (fun _ _ _ h=>h) (Or.inr ⟨by kernel_rfl,rfl⟩) (HS.out _ Hv1.out) ?_
   try simp only [Act.put]
   refine wpAnyG_ready (rs:=[11]) (by kernel_rfl) (by simp) ?_
   refine AllReadyG.cons rfl (fun K hK=>?_) AllReadyG.nil
   rw [if_neg (Bool.eq_false_iff.1 (by kernel_rfl))]
   refine hK.out _ _ (fun _=>(HS.out _ Hv1.out)) ?_
   clear hK K
   try simp only [Act.put]
   refine wpAnyG_take (i:=12) (v:=undef) rfl (by kernel_rfl) (fun _ _ _ h=>h) (Or.inr ⟨by kernel_rfl,rfl⟩) (HS.out _ Hv1.out) ?_
   try simp only [Act.put]
   refine tkG 13 (HS.out _ Hv1.out) ?_
   refine tkG 14 (HS.out _ Hv1.out) ?_
   refine wpAnyG_done (by kernel_rfl) ?_ _
   go_simp
   go_wp2_with fail
   go_ret
   exact ⟨by rw [hh];rfl,HcX.out.trans1 Hv1.out⟩
end
end Go.Proofs.YtkgfdgfhpdhhaaaGreat
