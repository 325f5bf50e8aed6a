/- Parts of the walks and of the plain theory, the first: alternate.Of where no error is: the automaton lies in the world. Conditions: the formula and the names lie in the world, they are checked; the sets' contract. -/
import Derived.Test.YtkgfdgfhpdhhaaaGreatT24
import Derived.Test.YtkgfdgfhpdhhaaaGreatT21
import Derived.Test.YtkgfdgfhpdhhaaaGreatT30
import Derived.Test.YtkgfdgfhpdhhaaaGreatT23
import Derived.Test.YtkgfdgfhpdhhaaaGreatT19
namespace Go.Proofs.YtkgfdgfhpdhhaaaGreat
open Go.ChangeShapes Go.WideShapes Go.ChangeAt Go.RowKit Go.Maps
attribute [local go_sem] Oper.semAt_some
set_option maxRecDepth 100000
set_option maxHeartbeats 8000000
theorem setCell_self {w:World} {b j:Nat} {cs:Array Value} {t:TypeId} {m:Nat × Nat} {x:Value} (h:w.heap[b]? = some (.cells cs t m)) (hx:cs[j]? = some x):w.setCell ⟨b,j,none⟩ x=w:=by
 have hlt:=(Array.getElem?_eq_some_iff.1 h).1
 have hh:(w.setCell ⟨b,j,none⟩ x).heap=w.heap:=by
  refine Array.ext_getElem? (fun i=>?_)
  by_cases hi:i=b
  ·subst hi
   rw [h]
   have hset:cs.setIfInBounds j x=cs:=by
    refine Array.ext_getElem? (fun q=>?_)
    by_cases hq:q=j
    ·subst hq
     have hl:=(Array.getElem?_eq_some_iff.1 hx).1
     rw [Array.getElem?_setIfInBounds_self_of_lt hl,hx]
    ·rw [Array.getElem?_setIfInBounds_ne (Ne.symm hq)]
   simp [World.setCell,Array.getElem?_modify,h,hset]
  ·exact Below.heap_setCell _ _ _ _ hi
 have hc:Chg (fun k=>k=b) w (w.setCell ⟨b,j,none⟩ x):=(Chg.refl (fun k=>k=b) w).setCell (p:=⟨b,j,none⟩) (fun _=>rfl) _
 have h1:=hc.os
 have h2:=hc.tape
 have h3:=hc.output
 cases w
 simp_all [World.setCell]
theorem SOwn.typed {S:Nat→Prop} {W W':World} {lo:Nat} {sl:Value} {ls:List (List Int)} {xs:List StS} (h:SOwn W lo sl ls xs) (hc:Chg S W W') (hn:∀ q,sl.ownBlock=some q→¬ S q) (hs:∀ q,S q→∀ cs m,W.heap[q]?≠some (.cells cs 3 m)):SOwn W' lo sl ls xs :=
 ⟨ownsRow_chg h.own hc hn,h.fst,fun x hx=>by obtain ⟨a,b,c⟩:=h.tos x hx;exact ⟨a,b.typed hc hs,c⟩⟩
theorem of_ok {t r:T} {v:Value} {w:World} {an:Option Addr} {cn:Nat} {names:List (List UInt8)} {I:List (List Int)} {s':MkS} {f:MkS→Option (List (List Int) × MkS)} (ht:TI w t v) (hN:sizeT t≤1000000) (hnm:Texts w (.slice an names.length cn) names) (hcn:names.length≤cn)
 (hc0:checkedN t names 0 1=0) (hn0:normN t=0) (hr:∀ r',RewOf t r'→r'=r) (hS:∀ (R:Nat→Prop) (mb:Nat),SetsC R mb (.slice an names.length cn) names r f) (hf:f ⟨[],[]⟩=some (I,s')) (hck:checkAN I s'.sts=0) :
 Calls Tryz.prog 11 #[v,.slice an names.length cn] w fun e w'=>Chg Nob w w'∧∃ ai ci as' cs,e = .returned (.tuple #[.agg #[.slice ai I.length ci,.slice as' s'.sts.length cs],.int .i64 0])∧LRow w' ai I∧SRow w' as' s'.sts:=by
 have hmf:∀ (fn:Fn) (first cap:Array Value) (w:World),(Instr.makeFunc fn first cap).run Tryz.prog w = .ok (.func fn first cap) w:=fun _ _ _ _=>rfl
 have hmm:=@run_makeMap Tryz.prog
 obtain ⟨a0,c0,rfl⟩:=ht.agg
 obtain ⟨B,hB⟩:∃ B,B=w.heap.size:=⟨_,rfl⟩
 obtain ⟨X1,hX1,hcX1,hbX1,hsX1⟩:=box_cells w #[.int .i64 t.kind,.string ⟨t.name.toArray⟩,.slice a0 t.kids.length c0] 24
 obtain ⟨X2,hX2,hcX2,hbX2,hsX2⟩:=box_cells X1 #[.slice none 0 0,.slice none 0 0] 38
 obtain ⟨X3,hX3,hcX3,hbX3,hsX3⟩:=box_cells X2 #[.int .i64 0] 32
 obtain ⟨X4,hX4,hcX4,hbX4,hsX4⟩:=box_cells X3 #[.int .u64 0] 53
 rw [hsX1] at hbX2 hsX2
 rw [hsX2] at hbX3 hsX3
 rw [hsX3] at hbX4 hsX4
 rw [← hB] at hbX1 hsX1 hbX2 hsX2 hbX3 hsX3 hbX4 hsX4
 have hc14:Chg Nob X1 X4:=(hcX2.trans1 hcX3).trans1 hcX4
 have hcw4:Chg Nob w X4:=hcX1.trans1 hc14
 have b1:=hc14.at hbX1 (fun e=>e)
 have b2:=(hcX3.trans1 hcX4).at hbX2 (fun e=>e)
 have b3:=hcX4.at hbX3 (fun e=>e)
 have b13:=(hcX2.trans1 hcX3).at hbX1 (fun e=>e)
 have hs3:=hsX3
 have htab:Calls Tryz.prog 28 #[.agg #[.int .i64 t.kind,.string ⟨t.name.toArray⟩,.slice a0 t.kids.length c0],.slice an names.length cn,.agg #[.slice none 0 0,.slice (some ⟨B+1+1+1,0,none⟩) 1 1]] X4 (TabPost t names [] [0] X4) :=
  table_any (P:=[]) (L:=[0]) (ht.nob hcw4) hN (fun b hb=>by have:=hcw4.size;omega) (Texts.nob hnm hcw4) hcn (by simp) (fun j x h=>by simp at h) (fun j x h=>by
   have hj0:j=0:=by have:=(List.getElem?_eq_some_iff.1 h).1;simp at this;omega
   subst hj0
   cases h
   exact ⟨_,rfl,by rw [Go.WideShapes.add_plain];exact cell_row hbX4 0 rfl⟩) (fun _=>rfl) (fun e=>by cases e)
 have Ht:=Lib.hid (ht.nob hcw4)
 have Hnm:=Lib.hid (Texts.nob hnm hcw4)
 have Hcw4:=Lib.hid hcw4
 have Hb1:=Lib.hid b1
 have Hb2:=Lib.hid b2
 have Hb3:=Lib.hid b3
 have Hs4:Hid (X4.heap.size=B+1+1+1+1):=Lib.hid hsX4
 have HX2:=Lib.hid hX2
 have HX3:=Lib.hid hX3
 have HX4:=Lib.hid hX4
 have HB:=Lib.hid hB
 have Hb13:=Lib.hid b13
 have Hs3:Hid (X3.heap.size=B+1+1+1):=Lib.hid hs3
 clear ht hnm hcw4 b1 b2 b3 hX2 hX3 hX4 hcX1 hcX2 hcX3 hcX4 hbX1 hbX2 hbX3 hbX4 hsX1 hsX2 hsX3 hsX4 hc14 b13 hs3
 go_enter_defers Tryz.func11,Tryz.ntmps11
 go_upto_region 1 with fail
 rw [← hX1,← HB.out]
 clear hX1 hB
 rw [← HX2.out,← HX3.out]
 obtain ⟨x0,x1,x2,_⟩:=cells_three Hb13.out
 go_wp2_with fail
 rw [← HX4.out,Hs3.out]
 (with_reducible refine htab.mono ?_)
 clear htab x0 x1 x2
 rintro e w1 ⟨hc1,⟨-,gr,hgr,rfl,-⟩ | ⟨hne,-⟩⟩
 rotate_left
 ·exact absurd hc0 hne
 have hrw:=Rewrite_any (TI.nob Ht.out hc1) hN
 have Hc1:Hid (Chg Nob w w1):=Lib.hid (Hcw4.out.trans1 hc1)
 have Hb11:=Lib.hid (hc1.at Hb1.out (fun e=>e))
 have Hb21:=Lib.hid (hc1.at Hb2.out (fun e=>e))
 have Hb31:=Lib.hid (hc1.at Hb3.out (fun e=>e))
 have Hnm1:=Lib.hid (Texts.nob Hnm.out hc1)
 have Hs1:Hid (B+1+1+1+1≤w1.heap.size):=(show _≤_ by have:=hc1.size;have:=Hs4.out;omega)
 obtain ⟨x0,x1,x2,_⟩:=cells_three Hb11.out
 clear hc1 hgr
 go_wp2_with fail
 (with_reducible refine hrw.mono ?_)
 clear hrw x0 x1 x2
 rintro e w2 ⟨hc2,r',ao,cap,hre,hTr,rfl⟩
 obtain rfl:=hr r' hre
 rw [hn0]
 obtain ⟨X5,hX5,hcX5,hbX5,hsX5⟩:=box_cells w2 #[.int .i64 r'.kind,.string ⟨r'.name.toArray⟩,.slice ao r'.kids.length cap] 24
 have hc25:Chg Nob w X5:=(Hc1.out.trans1 hc2).trans1 hcX5
 have b25:=hcX5.at (hc2.at Hb21.out (fun e=>e)) (fun e=>e)
 have b35:=hcX5.at (hc2.at Hb31.out (fun e=>e)) (fun e=>e)
 obtain ⟨V0,hV0⟩:∃ V0,V0=X5.alloc (.map #[] 0):=⟨_,rfl⟩
 obtain ⟨V,hV⟩:∃ V,V=V0.alloc (.cells #[.slice an names.length cn,.slice none 0 0,.map (some X5.heap.size),.int .i64 0] 62):=⟨_,rfl⟩
 have hini:=MkIs.init hV0 hV
 have hcV:=hini.1
 have hTV:IsTree (fun b=>b < X5.heap.size) V r' (.agg #[.int .i64 r'.kind,.string ⟨r'.name.toArray⟩,.slice ao r'.kids.length cap]):=IsTree.mono (fun a v hb hc=>(hcX5.trans1 hcV).cell' hc (fun e=>e)) (fun b hb=>by have h9:b < w2.heap.size:=hb;have:=hcX5.size;show b < X5.heap.size;omega) _ _ hTr
 have hTxV:Texts V (.slice an names.length cn) names:=Texts.nob Hnm1.out ((hc2.trans1 hcX5).trans1 hcV)
 have hNV:NmIs (fun b=>b < X5.heap.size) V (.slice an names.length cn) names:=⟨hTxV,fun b o n c e hne=>by
  obtain ⟨ao2,cp2,e2,_,hx⟩:=Texts.nob Hnm1.out (hc2.trans1 hcX5)
  obtain ⟨x,hx0⟩:∃ x,names[0]? = some x:=by
   cases names with
   | nil=>exact absurd rfl hne
   | cons x l=>exact ⟨x,rfl⟩
  obtain ⟨b9,o9,e9,hc9⟩:=hx 0 x hx0
  rw [e] at e2
  simp only [Value.slice.injEq] at e2
  rw [← e2.1] at e9
  cases e9
  exact World.block_lt_of_cell? _ _ hc9⟩
 have hsets:=hS (fun b=>b < X5.heap.size) (X5.heap.size+1) V _ ⟨[],[]⟩ _ hini.2 ⟨fun k n h=>(by cases h),(by simp),fun i st h=>(by simp at h)⟩ hTV hNV (fun q hq hr=>by have hr:q < X5.heap.size:=hr;rcases hq with rfl | rfl <;> omega) (fun q hq=>Nat.lt_of_lt_of_le hq hcV.size)
 have bT:=hcV.at hbX5 (fun e=>e)
 have HcV:Hid (Chg Nob w V):=Lib.hid (hc25.trans1 hcV)
 have Hb2V:=Lib.hid (hcV.at b25 (fun e=>e))
 have Hb3V:=Lib.hid (hcV.at b35 (fun e=>e))
 have HsV:Hid (B+1+1+1+1≤X5.heap.size∧X5.heap.size+2=V.heap.size):=(show _∧_ from ⟨by have:=Hs1.out;have:=hc2.size;have:=hcX5.size;omega,by rw [hV,World.size_alloc,hV0,World.size_alloc]⟩)
 have Hse:Hid (X5.setCell ⟨B+1+1,0,none⟩ (.int .i64 0)=X5):=Lib.hid (setCell_self b35 rfl)
 have e0:=cell_row b35 0 (v:= .int .i64 0) rfl
 have ef:X5.frozen? ⟨B+1+1,0,none⟩=false:=by simp [World.frozen?,b35]
 have Hbt:=Lib.hid bT
 have HX5:=Lib.hid hX5
 have HV0:=Lib.hid hV0
 have HV:=Lib.hid hV
 rw [hX5] at e0 ef
 clear hc2 hTr hre hX5 hV0 hV hcX5 hbX5 hsX5 hc25 b25 b35 hini hcV hTV hTxV hNV bT hr hS
 go_upto_region 5 with fail
 rw [← HX5.out,Hse.out]
 rw [← HX5.out] at e0 ef
 obtain ⟨t0,t1,t2,_⟩:=cells_three Hbt.out
 go_upto_region 9 with fail
 rw [← HV0.out,← HV.out]
 go_wp2_with fail
 (with_reducible refine hsets.mono ?_)
 clear hsets t0 t1 t2 e0 ef
 rintro e w3 ⟨hc3,⟨hf2,-⟩ | ⟨I2,s2,slI,D3,hf2,rfl,hM3,hg3,hok3,-,⟨xI,hown⟩,hnI,hIl,-⟩⟩
 ·rw [hf] at hf2;cases hf2
 rw [hf] at hf2
 cases hf2
 have hc3B:∀ q,(q=X5.heap.size+1∨q=X5.heap.size)→¬ q < X5.heap.size:=fun q e=>by omega
 have b23:=hc3.at Hb2V.out (fun e=>hc3B _ e (by have:=HsV.out;omega))
 have b33:=hc3.at Hb3V.out (fun e=>hc3B _ e (by have:=HsV.out;omega))
 have hc3w:Chg Nob w w3:=HcV.out.trans hc3 (fun i hi e=>hc3B i e (by have:=HB.out;have:=HsV.out;omega))
 obtain ⟨ai,ci,rfl,-⟩:=hown.lrow
 have hD3:¬ D3 (B+1):=fun e=>by
  rcases hg3 _ e with e | e
  ·exact hc3B _ e (by have:=HsV.out;omega)
  ·have:=HsV.out;omega
 have hB1:∀ {W:World} {x y:Value},W.heap[B+1]? = some (.cells #[x,y] 38 (0,0))→∀ q,At1 (B+1) q→∀ cs t m,W.heap[q]? = some (.cells cs t m)→t=38:=fun hb q e cs t m h=>by
  have e:q=B+1:=e
  subst e
  rw [hb] at h
  simp at h
  exact h.2.1.symm
 obtain ⟨w4,hw4⟩:∃ w4,w4=w3.setCell ⟨B+1,0,none⟩ (.slice ai I.length ci):=⟨_,rfl⟩
 have hc4:Chg (At1 (B+1)) w3 w4:=by rw [hw4];exact (Chg.refl (At1 (B+1)) w3).setCell (p:=⟨B+1,0,none⟩) (fun _=>rfl) _
 have b24:w4.heap[B+1]? = some (.cells #[.slice ai I.length ci,.slice none 0 0] 38 (0,0)):=by rw [hw4];exact block_two_set0 b23
 have hM4:=hM3.keep hc4 (fun q e hq=>by have e:q=B+1:=e;subst e;exact hD3 hq) (fun q e cs m h=>absurd (hB1 b23 q e cs 3 m h) (by decide))
 have hown4:=hown.typed hc4 (fun q hq e=>by
  obtain ⟨cs,m,hb⟩:=ownsRow_block hown.own q hq
  exact absurd (hB1 b23 q e cs 73 m hb) (by decide)) (fun q e cs m h=>absurd (hB1 b23 q e cs 3 m h) (by decide))
 obtain ⟨as',cs',hcell,-⟩:=hM4.srow
 obtain ⟨w5,hw5⟩:∃ w5,w5=w4.setCell ⟨B+1,1,none⟩ (.slice as' s'.sts.length cs'):=⟨_,rfl⟩
 have hc5:Chg (At1 (B+1)) w4 w5:=by rw [hw5];exact (Chg.refl (At1 (B+1)) w4).setCell (p:=⟨B+1,1,none⟩) (fun _=>rfl) _
 have b25:w5.heap[B+1]? = some (.cells #[.slice ai I.length ci,.slice as' s'.sts.length cs'] 38 (0,0)):=by rw [hw5];exact block_two_set1 b24
 have hM5:=hM4.keep hc5 (fun q e hq=>by have e:q=B+1:=e;subst e;exact hD3 hq) (fun q e cs m h=>absurd (hB1 b24 q e cs 3 m h) (by decide))
 have hown5:=hown4.typed hc5 (fun q hq e=>by
  obtain ⟨cs,m,hb⟩:=ownsRow_block hown4.own q hq
  exact absurd (hB1 b24 q e cs 73 m hb) (by decide)) (fun q e cs m h=>absurd (hB1 b24 q e cs 3 m h) (by decide))
 obtain ⟨as2,cs2,hcell2,hSR⟩:=hM5.srow
 have hmbB:X5.heap.size+1≠B+1:=by have:=HsV.out;omega
 have hcell5:=hc5.cell' hcell (fun e=>hmbB e)
 rw [hcell5] at hcell2
 simp only [Option.some.injEq,Value.slice.injEq,true_and] at hcell2
 obtain ⟨rfl,rfl⟩:=hcell2
 obtain ⟨ai2,ci2,e2,hLR⟩:=hown5.lrow
 simp only [Value.slice.injEq,true_and] at e2
 obtain ⟨rfl,rfl⟩:=e2
 have hchk:=acheck_any (ci:=ci) (cs:=cs') (by have:=hIl;omega) (by have:=hok3.2.1;omega) hLR hSR
 obtain ⟨f0,f1,g0,g1⟩:=cell_two b23
 obtain ⟨f40,f41,g40,g41⟩:=cell_two b24
 obtain ⟨f50,f51,_⟩:=cell_two b25
 have b34:=hc4.at b33 (fun e=>by have e:B+1+1=B+1:=e;omega)
 have b35:=hc5.at b34 (fun e=>by have e:B+1+1=B+1:=e;omega)
 have Hw5:Hid (Chg Nob w w5):=Lib.hid (((hc3w.any (S:=At1 (B+1))).trans1 hc4).trans1 hc5 |>.mono (fun i hi e=>by have e:i=B+1:=e;have:=HB.out;omega))
 have Hb25:=Lib.hid b25
 have Hb35:=Lib.hid b35
 have HLR:=Lib.hid hLR
 have HSR:=Lib.hid hSR
 have Hw4:=Lib.hid hw4
 have Hw5e:=Lib.hid hw5
 clear hf hc3 hM3 hg3 hok3 hown hnI hIl hc3B b23 b33 hc3w hD3 hB1 hw4 hc4 b24 hM4 hown4 hw5 hc5 b25 hM5 hown5 hSR hLR b34 b35 hcell5 hmbB
 go_upto_region 10 with fail
 rw [← Hw4.out]
 go_upto_region 11 with fail
 rw [← Hw5e.out]
 go_wp2_with fail
 (with_reducible refine hchk.mono ?_)
 clear hchk f0 f1 g0 g1 f40 f41 g40 g41 f50 f51 hcell
 rintro e w6 ⟨rfl,hc6⟩
 rw [hck]
 have b26:=hc6.at Hb25.out (fun e=>e)
 have b36:=hc6.at Hb35.out (fun e=>e)
 obtain ⟨f0,f1,g0,g1⟩:=cell_two b26
 have e0:=cell_row b36 0 (v:= .int .i64 0) rfl
 have ef:w6.frozen? ⟨B+1+1,0,none⟩=false:=by simp [World.frozen?,b36]
 have s1:=setCell_self (j:=0) (x:= .slice ai I.length ci) b26 rfl
 have s2:=setCell_self (j:=1) (x:= .slice as' s'.sts.length cs') b26 rfl
 have s3:=setCell_self (j:=0) (x:= .int .i64 0) b36 rfl
 have S1:=Lib.hid s1
 have S2:=Lib.hid s2
 have S3:=Lib.hid s3
 have Hb26:=Lib.hid b26
 have Hb36:=Lib.hid b36
 have Hend:Hid (Chg Nob w w6):=Lib.hid (Hw5.out.trans1 hc6)
 have HL6:=Lib.hid (HLR.out.nob hc6)
 have HS6:=Lib.hid (HSR.out.nob hc6)
 clear b26 b36 s1 s2 s3 hc6
 go_wp2_with fail
 rw [S1.out,S2.out,S3.out]
 refine leaves_cons (f:=29) (args:=#[.pointer (some ⟨B+1,0,none⟩),.pointer (some ⟨B+1+1,0,none⟩)]) (by simp) (by simp [go_sem]) ?_
 refine (acatch_idle ⟨B+1,0,none⟩ ⟨B+1+1,0,none⟩ _).mono ?_
 rintro e u' w'' ⟨rfl,rfl,rfl⟩
 exact ⟨_,results11 rfl rfl Hb26.out Hb36.out,Hend.out,ai,ci,as',cs',rfl,HL6.out,HS6.out⟩
end Go.Proofs.YtkgfdgfhpdhhaaaGreat
namespace Go.Proofs.YtkgfdgfhpdhhaaaGreat
open Go.ChangeShapes Go.WideShapes Go.RowKit Go.Shelf
attribute [local go_sem] Oper.semAt_some
theorem SOwn.push2 {W:World} {lo:Nat} {sl:Value} {ms:List (List Int)} {xs:List StS} (h:SOwn W lo sl ms xs) (hlo:lo≤W.heap.size) (hn:ms.length≤1000000) (x:StS) (hx:x.1.length≤2000000∧TRow W 0 x.2.1 x.1∧(x.2.1=none→x.2.2=0)) :
 ∃ sl' W',(Builtin.append_ #[35,35] 35 #[sl,.slice (some ⟨W.heap.size,0,none⟩) 1 1]).run Tryz.prog (W.alloc (.cells #[cellS x] 73)) = .ok sl' W'∧SOwn W' lo sl' (ms++[x.1]) (xs++[x])∧Chg (fun q=>sl.ownBlock=some q) W W'∧(∃ q c,sl' = .slice (some ⟨q,0,none⟩) (ms.length+1) c∧q < W'.heap.size∧(sl.ownBlock=some q∨W.heap.size≤q)):=by
 have hA:Chg Nob W (W.alloc (.cells #[cellS x] 73)):=(Chg.refl _ _).alloc _
 obtain ⟨g',cap,W',hrun,hrow,hgr,hlies,hg'⟩:=append35 x (ownsRow_chg h.own hA (fun _ _ e=>e)) (by rw [World.size_alloc];omega) (by omega) (heap_alloc_new W (.cells #[cellS x] 73))
 have hc:Chg (fun q=>sl.ownBlock=some q) W W':=(hA.any (S:=fun q=>sl.ownBlock=some q)).trans1 ((Chg.refl _ _).grown hgr (fun q hq _=>hq))
 refine ⟨_,W',hrun,⟨?_,by rw [List.map_append,h.fst];rfl,fun y hy=>?_⟩,hc,g',cap,rfl,hg',hlies.imp id (fun e=>by rw [World.size_alloc] at e;omega)⟩
 ·rw [List.length_append,List.map_append]
  exact hrow
 ·have hty:∀ q,sl.ownBlock=some q→∀ cs m,W.heap[q]?≠some (.cells cs 3 m):=fun q hq cs m hb=>by
   obtain ⟨cs',m',hb2⟩:=ownsRow_block h.own q hq
   rw [hb] at hb2
   simp at hb2
  rcases List.mem_append.1 hy with hy | hy
  ·obtain ⟨a,b,c⟩:=h.tos y hy
   exact ⟨a,b.typed hc hty,c⟩
  ·obtain rfl:=List.mem_singleton.1 hy
   exact ⟨hx.1,hx.2.1.typed hc hty,hx.2.2⟩
theorem SOwn.low {W:World} {lo lo':Nat} {sl:Value} {ms:List (List Int)} {xs:List StS} (h:SOwn W lo sl ms xs) (hl:lo'≤lo):SOwn W lo' sl ms xs :=
 ⟨⟨h.own.1,h.own.2.imp id (fun ⟨g,cap,cur,e,hb,rest⟩=>⟨g,cap,cur,e,Nat.le_trans hl hb,rest⟩)⟩,h.fst,h.tos⟩
structure DOwnS (D:Nat→Prop) (W:World) (lo:Nat) (ob:Nat) (sl:Value) (ms:List (List Int)) (xs:List StS):Prop where
 lt:∀ q,D q→q < W.heap.size
 box:D ob∧W.heap[ob]? = some (.cells #[sl] 35 (0,0))
 own:SOwn W lo sl ms xs
 ownD:∀ q,sl.ownBlock=some q→D q
 tosD:∀ x∈xs,x.1≠[]→∀ a,x.2.1=some a→D a.block
theorem DOwnS.keep {D S:Nat→Prop} {W W':World} {lo ob:Nat} {sl:Value} {ms:List (List Int)} {xs:List StS} (h:DOwnS D W lo ob sl ms xs) (hc:Chg S W W') (hs:∀ q,S q→¬ D q):DOwnS D W' lo ob sl ms xs:=by
 have hD:∀ q,D q→¬ S q:=fun q hq e=>hs q e hq
 exact ⟨fun q hq=>Nat.lt_of_lt_of_le (h.lt q hq) hc.size,⟨h.box.1,hc.at h.box.2 (hD _ h.box.1)⟩,⟨ownsRow_chg h.own.own hc (fun q hq=>hD q (h.ownD q hq)),h.own.fst,fun x hx=>by
  obtain ⟨a,b,c⟩:=h.own.tos x hx
  exact ⟨a,b.kept hc (fun hne ad e=>hD _ (h.tosD x hx hne ad e)),c⟩⟩,h.ownD,h.tosD⟩
theorem DOwnS.push {D:Nat→Prop} {W V:World} {lo ob:Nat} {sl:Value} {ms:List (List Int)} {xs:List StS} (h:DOwnS D W lo ob sl ms xs) (hlo:lo≤W.heap.size) (hn:ms.length≤1000000) (hWV:Chg Nob W V) (x:StS) (hx:x.1.length≤2000000∧TRow V W.heap.size x.2.1 x.1∧(x.2.1=none→x.2.2=0)) :
 ∃ sl' V1,(Builtin.append_ #[35,35] 35 #[sl,.slice (some ⟨V.heap.size,0,none⟩) 1 1]).run Tryz.prog (V.alloc (.cells #[cellS x] 73)) = .ok sl' V1∧V1.heap[ob]? = some (.cells #[sl] 35 (0,0))∧Chg (fun q=>sl.ownBlock=some q) V V1∧(∃ q c,sl' = .slice (some ⟨q,0,none⟩) (ms.length+1) c) ∧
   ∃ D',DOwnS D' (V1.setCell ⟨ob,0,none⟩ sl') lo ob sl' (ms++[x.1]) (xs++[x])∧Chg D W (V1.setCell ⟨ob,0,none⟩ sl')∧Grows D D' W.heap.size:=by
 have hV:=h.keep hWV (fun _ e=>e.elim)
 have hob:=hV.box.2
 have hn35:∀ q cs t m,V.heap[q]? = some (.cells cs t m)→t≠35→q≠ob:=by
  rintro q cs t m e ht rfl
  rw [hob] at e
  simp at e
  exact ht e.2.1.symm
 have hw:=hWV.size
 obtain ⟨sl',V1,hrun,hown,hc,q,c,rfl,hq,hl⟩:=hV.own.push2 (by omega) hn x ⟨hx.1,hx.2.1.low (Nat.zero_le _),hx.2.2⟩
 have hnob:¬ sl.ownBlock=some ob:=fun e=>by
  obtain ⟨cs,m,e2⟩:=ownsRow_block hV.own.own ob e
  exact hn35 ob cs 73 m e2 (by decide) rfl
 have hob1:=hc.at hob hnob
 obtain ⟨sl',hsl⟩:∃ sl',sl'=Value.slice (some ⟨q,0,none⟩) (ms.length+1) c:=⟨_,rfl⟩
 rw [← hsl] at hrun hown
 have hsb:sl'.ownBlock=some q:=by rw [hsl];rfl
 have hset:Chg (At1 ob) V1 (V1.setCell ⟨ob,0,none⟩ sl'):=(Chg.refl (At1 ob) V1).setCell (p:=⟨ob,0,none⟩) (fun _=>rfl) _
 have hall:Chg (fun k=>k=ob∨sl.ownBlock=some k) V (V1.setCell ⟨ob,0,none⟩ sl'):=(hc.mono (fun _ _ e=> .inr e)).setCell (fun _=> .inl rfl) _
 refine ⟨sl',V1,by rw [hsl];rw [← hsl];exact hrun,hob1,hc,⟨q,c,hsl⟩,fun k=>D k∨k=q∨(x.1≠[]∧∃ a,x.2.1=some a∧a.block=k),⟨?_,⟨.inl h.box.1,block_one_set hob1⟩,?_,?_,?_⟩,?_,?_⟩
 ·rintro k (hk | rfl | ⟨hne,a,ha,rfl⟩)
  ·exact Nat.lt_of_lt_of_le (hV.lt k hk) hall.size
  ·rw [World.size_setCell];exact hq
  ·obtain ⟨g,cs,m,e,_,hb⟩:=hx.2.1.2 hne
   rw [ha] at e
   cases e
   exact Nat.lt_of_lt_of_le (Array.getElem?_eq_some_iff.1 hb).1 hall.size
 ·refine hown.typed hset (fun k hk e=>?_) (fun k e cs m hb=>?_)
  ·have e:k=ob:=e
   subst e
   obtain ⟨cs,m,e2⟩:=ownsRow_block hown.own k hk
   rw [hob1] at e2
   simp at e2
  ·have e:k=ob:=e
   subst e
   rw [hob1] at hb
   simp at hb
 ·intro k hk
  rw [hsb] at hk
  cases hk
  exact .inr (.inl rfl)
 ·intro y hy hne a ha
  rcases List.mem_append.1 hy with hy | hy
  ·exact .inl (h.tosD y hy hne a ha)
  ·obtain rfl:=List.mem_singleton.1 hy
   exact .inr (.inr ⟨hne,a,ha,rfl⟩)
 ·refine (hWV.any (S:=D)).trans1 (hall.mono (fun k _ e=>?_))
  rcases e with rfl | e
  ·exact h.box.1
  ·exact h.ownD k e
 ·rintro k (hk | rfl | ⟨hne,a,ha,rfl⟩)
  ·exact .inl hk
  ·rcases hl with hl | hl
   ·exact .inl (h.ownD _ hl)
   ·exact .inr (by omega)
  ·obtain ⟨g,cs,m,e,hlo,_⟩:=hx.2.1.2 hne
   rw [ha] at e
   cases e
   exact .inr hlo
theorem SOwn.sin2 {W:World} {lo:Nat} {sl:Value} {ls:List (List Int)} {xs:List StS} (h:SOwn W lo sl ls xs):∃ ao c,sl = .slice ao ls.length c∧SIn W ao xs∧(ao=none→c=0):=by
 obtain ⟨ao,c,e,k⟩:=h.sin
 refine ⟨ao,c,e,k,?_⟩
 rintro rfl
 rcases h.own.2 with ⟨e2,_⟩ | ⟨g,cap,cur,e2,_⟩
 ·rw [e] at e2
  simp at e2
  exact e2.2
 ·rw [e] at e2
  simp at e2
theorem SOwn.concat {W:World} {lo:Nat} {sl:Value} {ms ms2:List (List Int)} {xs ys:List StS} {ao:Option Addr} {c:Nat} (h:SOwn W lo sl ms xs) (hlo:lo≤W.heap.size) (hk:ys.map (·.1)=ms2) (k:SIn W ao ys) (hnil:ao=none→c=0) (hn:ms.length+ms2.length≤1000000) :
 ∃ sl' W',(Builtin.append_ #[35,35] 35 #[sl,.slice ao ms2.length c]).run Tryz.prog W = .ok sl' W'∧SOwn W' lo sl' (ms++ms2) (xs++ys)∧Chg (fun q=>sl.ownBlock=some q) W W'∧∀ q,sl'.ownBlock=some q→sl.ownBlock=some q∨W.heap.size≤q:=by
 obtain ⟨i,hi,hz,hs,hb⟩:=info73_parts
 have hyl:ys.length=ms2.length:=by rw [← hk,List.length_map]
 have hty:∀ q,sl.ownBlock=some q→∀ cs m,W.heap[q]?≠some (.cells cs 3 m):=fun q hq cs m hb=>by
  obtain ⟨cs',m',hb2⟩:=ownsRow_block h.own q hq
  rw [hb] at hb2
  simp at hb2
 have htos:∀ y∈ys,y.1.length≤2000000∧TRow W 0 y.2.1 y.1∧(y.2.1=none→y.2.2=0):=fun y hy=>by
  obtain ⟨j,hj,rfl⟩:=List.mem_iff_getElem.1 hy
  obtain ⟨_,_,_,_,r⟩:=k j _ (List.getElem?_eq_getElem hj)
  exact r
 cases ao with
 | none =>
   have hys:ys=[]:=by
    cases ys with
    | nil=>rfl
    | cons y ys=>obtain ⟨_,_,e,_⟩:=k 0 y rfl;cases e
   subst hys
   obtain rfl:ms2=[]:=by rw [← hk];rfl
   obtain rfl:=hnil rfl
   refine ⟨sl,W,run_append_owned_none (P:=Tryz.prog) (w:=W) lo 35 35 73 i 1 Tryz.underlying35 hi sl _ _ h.own,?_,Chg.refl _ _,fun q e=> .inl e⟩
   rw [List.append_nil,List.append_nil]
   exact h
 | some a =>
   have hcell:∀ j u,(ys.map cellS)[j]? = some u→W.cell? (a.add j)=some u:=by
    intro j u hj
    rw [List.getElem?_map] at hj
    cases hy:ys[j]? with
    | none=>rw [hy] at hj;cases hj
    | some y =>
      rw [hy] at hj
      cases hj
      obtain ⟨b,o,e,c0,_⟩:=k j y hy
      cases e
      rw [Go.WideShapes.add_plain]
      exact c0
   have h1:∀ u∈ys.map cellS,u.oneCell'=true:=fun u hu=>by
    obtain ⟨y,_,rfl⟩:=List.mem_map.1 hu
    rfl
   obtain ⟨v',W',hr,h2,h3,_,h5⟩:=run_append_own_at (P:=Tryz.prog) W lo 35 35 73 i _ 1 24 Tryz.underlying35 hi hz hs hb rfl (by decide) sl _ _ h.own a ms2.length c (ys.map cellS) (by rw [List.length_map,hyl,Nat.mul_one]) hcell h1 (by unfold maxLen;omega) (by omega) hlo
   have hc:Chg (fun q=>sl.ownBlock=some q) W W':=(Chg.refl _ _).grown h3 (fun q hq _=>hq)
   refine ⟨v',W',hr,⟨?_,by rw [List.map_append,h.fst,hk],fun y hy=>?_⟩,hc,fun q hq=>?_⟩
   ·rw [List.length_append,List.map_append];exact h2
   ·rcases List.mem_append.1 hy with hy | hy
    ·obtain ⟨p,q,r⟩:=h.tos y hy
     exact ⟨p,q.typed hc hty,r⟩
    ·obtain ⟨p,q,r⟩:=htos y hy
     exact ⟨p,q.typed hc hty,r⟩
   ·rcases h5 with e | e
    ·exact .inl (e ▸ hq)
    ·rw [e] at hq;cases hq;exact .inr (Nat.le_refl _)
end Go.Proofs.YtkgfdgfhpdhhaaaGreat
namespace Go.Proofs.YtkgfdgfhpdhhaaaGreat
open Go.ChangeShapes Go.WideShapes Go.RowKit
attribute [local go_sem] Oper.semAt_some
set_option maxRecDepth 100000
set_option maxHeartbeats 8000000
def bitI (L:List (List UInt8)) (nm:List UInt8):Int:=2 ^ L.idxOf nm
theorem MkIs.nvc {D:Nat→Prop} {W:World} {mb:Nat} {nv:Value} {s:MkS} {mv:Int} (h:MkIs W D mb nv s mv):W.cell? ⟨mb,0,none⟩=some nv:=by
 obtain ⟨h1,h2,h3,sv,pb,lo,xs,dm,hb,dmb,dpb,hm,hnum,hrow,hfst,hown,hx⟩:=h
 exact cell_row hb 0 rfl
theorem wrap_pow:∀ k:Nat,k < 64→IntKind.u64.wrap (2 ^ k)=2 ^ k:=by decide
theorem MOwn.lit (W:World) (x:MvS) (hx:x.1.to.length≤2000000∧TRow W 0 x.2.1 x.1.to∧(x.2.1=none→x.2.2=0)):MOwn (W.alloc (.cells (cellsM x).toArray 75)) W.heap.size (.slice (some ⟨W.heap.size,0,none⟩) 1 1) [x.1] [x]:=by
 refine ⟨?_,rfl,fun y hy=>?_⟩
 ·have:=World.ownsRow_lit (base:=W.heap.size) (e:=75) (size:=3) W (cellsM x).toArray 1 (Nat.le_refl _) (by unfold maxLen;omega) rfl
  simpa [List.flatMap_cons] using this
 ·obtain rfl:=List.mem_singleton.1 hy
  exact ⟨hx.1,hx.2.1.nob ((Chg.refl _ _).alloc _),hx.2.2⟩
theorem ways_prop {R:Nat→Prop} {mb:Nat} {nv:Value} {L:List (List UInt8)} {t:T} (hk:t.kind=3) (hin:t.name∈L) (hL:L.length≤64):WaysC R mb nv L t (fun s=>some ([⟨bitI L t.name,0,[]⟩],s)):=by
 intro W D s v hM hok hT hNm hDR hRW
 obtain ⟨ao,cap,rfl,hl,hkk⟩:=hT.parts
 obtain ⟨k,hk2⟩:∃ k,k=L.idxOf t.name:=⟨_,rfl⟩
 have hk64:k < 64:=by have:=List.idxOf_lt_length_of_mem hin;omega
 have hix:∀ V,Chg Nob W V→Calls Tryz.prog 99 #[nv,.string ⟨t.name.toArray⟩] V fun e w'=>e = .returned (.int .i64 (k:Int))∧V=w':=fun V hV=>by
  have:=index_any nv L t.name V (hNm.nob hV).1
  unfold indexL at this
  rw [if_pos hin,← hk2] at this
  exact this
 rw [hk]
 obtain ⟨X,hX,hcX,hbX,hsX⟩:=box_cells W #[.int .i64 3,.string ⟨t.name.toArray⟩,.slice ao t.kids.length cap] 24
 obtain ⟨xb,hxb⟩:∃ xb,xb=W.heap.size:=⟨_,rfl⟩
 rw [← hxb] at hbX hsX
 obtain ⟨x0,x1,x2,_⟩:=cells_three hbX
 have n0:=(hM.nob hcX).nvc
 have HS:Hid (∀ V,Chg Nob X V→V.cell? ⟨mb,0,none⟩=some nv∧V.cell? ⟨xb,1,none⟩=some (.string ⟨t.name.toArray⟩)):=(show ∀ V,Chg Nob X V→_∧_ from fun V hV=>⟨hV.cell' n0 (fun e=>e),hV.cell' x1 (fun e=>e)⟩)
 have Hix:Hid (∀ V,Chg Nob X V→Calls Tryz.prog 99 #[nv,.string ⟨t.name.toArray⟩] V fun e w'=>e = .returned (.int .i64 (k:Int))∧V=w'):=Lib.hid (fun V hV=>hix V (hcX.trans1 hV))
 have HM:=Lib.hid (hM.nob hcX)
 have Hok:=Lib.hid hok
 have Hcx:=Lib.hid hcX
 have Hk2:=Lib.hid hk2
 have Hxb:=Lib.hid hxb
 have hk0:(0:Int)≤(k:Int):=by omega
 have hk64i:(k:Int) < 64:=by omega
 have hl2:t.kids.length≤9223372036854775807:=hl
 have HDlt:Hid (∀ q,D q→q < W.heap.size):=Lib.hid hM.lt
 clear hix hM hok hT hNm hDR hRW hkk hl hin hL hbX hsX hk2
 go_enter Tryz.func115,Tryz.ntmps115
 rw [hX] at x0 x1 n0
 go_upto_region 7 with fail
 rw [← hX,← Hxb.out]
 rw [← hX] at n0 x1
 clear hX x0 hxb
 refine wp_region_free (fun _=>true) (fun w'=>w'.cell? ⟨mb,0,none⟩=some nv∧w'.cell? ⟨xb,1,none⟩=some (.string ⟨t.name.toArray⟩)) (by kernel_rfl) ⟨n0,x1⟩ (fun hHeld=>?_)
 refine tkG 0 hHeld ?_
 refine tkG 1 hHeld ?_
 refine tkG 2 hHeld ?_
 refine tkG 3 hHeld ?_
 refine tkG 4 hHeld ?_
 refine tkG 5 hHeld ?_
 refine rdG 6 fun K hK=>?_
 go_simp
 (with_reducible refine (Hix.out _ ((Chg.refl Nob X).drew)).mono ?_)
 rintro e v1 ⟨rfl,rfl⟩
 refine hK.out _ _ (fun _=>HS.out _ ((Chg.refl Nob X).drew)) ?_
 clear hK K
 try simp only [Act.put]
 refine tkB 7 (HS.out _ ((Chg.refl Nob X).drew)) ?_
 refine tkG 8 (HS.out _ ((Chg.refl Nob X).drew)) ?_
 refine tkG 9 (HS.out _ ((Chg.refl Nob X).drew)) ?_
 refine rdG 10 fun K hK=>?_
 go_simp
 refine hK.out _ _ (fun _=>HS.out _ (((Chg.refl Nob X).drew).alloc _)) ?_
 clear hK K
 try simp only [Act.put]
 refine tkG 11 (HS.out _ (((Chg.refl Nob X).drew).alloc _)) ?_
 refine wpAnyG_done (by kernel_rfl) ?_ _
 go_simp
 clear hHeld
 go_wp2_with fail
 go_ret
 rw [wrap_pow k hk64]
 have hbit:(2:Int) ^ k=bitI L t.name:=by unfold bitI;rw [Hk2.out]
 rw [hbit]
 have hend:Chg Nob X ((X.alloc (.cells #[.int .u64 (bitI L t.name),.int .u64 0,.slice none 0 0] 75)).drew):=((Chg.refl _ _).alloc _).drew
 have hown:MOwn ((X.alloc (.cells #[.int .u64 (bitI L t.name),.int .u64 0,.slice none 0 0] 75)).drew) X.heap.size (.slice (some ⟨X.heap.size,0,none⟩) 1 1) [⟨bitI L t.name,0,[]⟩] [((⟨bitI L t.name,0,[]⟩:Mvi),none,0)]:=(MOwn.lit X ((⟨bitI L t.name,0,[]⟩:Mvi),none,0) ⟨by simp,⟨fun j x h=>by simp at h,fun h=>absurd rfl h⟩,fun _=>rfl⟩).nob ((Chg.refl _ _).drew)
 exact ⟨(Hcx.out.trans1 hend).any,.inr ⟨_,s,_,D,rfl,rfl,HM.out.nob hend,fun k hk=> .inl hk,Hok.out,Nat.le_refl _,⟨_,hown.low Hcx.out.size⟩,fun q hq e=>by
  cases hq
  have h9:X.heap.size < W.heap.size:=HDlt.out _ e
  have:=Hcx.out.size
  omega,by simp,fun m hm=>by rw [List.mem_singleton] at hm;subst hm;exact ⟨List.Pairwise.nil,fun k hk=>by cases hk⟩⟩⟩
theorem MOwn.nil (W:World) (lo:Nat):MOwn W lo (.slice none 0 0) [] []:=⟨World.ownsRow_nil _ _ _ _,rfl,fun x h=>by cases h⟩
theorem ways_true {R:Nat→Prop} {mb:Nat} {nv:Value} {L:List (List UInt8)} {t:T} (hk:t.kind=1):WaysC R mb nv L t (fun s=>some ([⟨0,0,[]⟩],s)):=by
 intro W D s v hM hok hT _ _ _
 obtain ⟨ao,cap,rfl,hl,-⟩:=hT.parts
 rw [hk]
 obtain ⟨X,hX,hcX,hbX,hsX⟩:=box_cells W #[.int .i64 1,.string ⟨t.name.toArray⟩,.slice ao t.kids.length cap] 24
 obtain ⟨x0,x1,x2,_⟩:=cells_three hbX
 have HM:=Lib.hid (hM.nob hcX)
 have Hok:=Lib.hid hok
 have Hcx:=Lib.hid hcX
 have HDlt:Hid (∀ q,D q→q < W.heap.size):=Lib.hid hM.lt
 have HsX:=Lib.hid hsX
 clear hM hok hT hl hbX hsX hcX
 rw [hX] at x0 x1 x2
 go_enter Tryz.func115,Tryz.ntmps115
 go_wp2_with fail
 rw [← hX]
 clear hX x0 x1 x2
 go_ret
 have hend:Chg Nob X (X.alloc (.cells #[.int .u64 0,.int .u64 0,.slice none 0 0] 75)):=(Chg.refl _ _).alloc _
 have hown:MOwn (X.alloc (.cells #[.int .u64 0,.int .u64 0,.slice none 0 0] 75)) X.heap.size (.slice (some ⟨X.heap.size,0,none⟩) 1 1) [⟨0,0,[]⟩] [((⟨0,0,[]⟩:Mvi),none,0)]:=MOwn.lit X ((⟨0,0,[]⟩:Mvi),none,0) ⟨by simp,⟨fun j x h=>by simp at h,fun h=>absurd rfl h⟩,fun _=>rfl⟩
 rw [HsX.out] at hown
 exact ⟨(Hcx.out.trans1 hend).any,.inr ⟨_,s,_,D,rfl,rfl,HM.out.nob hend,fun k hk=> .inl hk,Hok.out,Nat.le_refl _,⟨_,hown.low (by omega)⟩,fun q hq e=>by
  cases hq
  have h9:W.heap.size+1 < W.heap.size:=HDlt.out _ e
  omega,by simp,fun m hm=>by rw [List.mem_singleton] at hm;subst hm;exact ⟨List.Pairwise.nil,fun k hk=>by cases hk⟩⟩⟩
theorem ways_false {R:Nat→Prop} {mb:Nat} {nv:Value} {L:List (List UInt8)} {t:T} (hk:t.kind=2):WaysC R mb nv L t (fun s=>some ([],s)):=by
 intro W D s v hM hok hT _ _ _
 obtain ⟨ao,cap,rfl,hl,-⟩:=hT.parts
 rw [hk]
 obtain ⟨X,hX,hcX,hbX,hsX⟩:=box_cells W #[.int .i64 2,.string ⟨t.name.toArray⟩,.slice ao t.kids.length cap] 24
 obtain ⟨x0,x1,x2,_⟩:=cells_three hbX
 have HM:=Lib.hid (hM.nob hcX)
 have Hok:=Lib.hid hok
 have Hcx:=Lib.hid hcX
 clear hM hok hT hl hbX hsX hcX
 rw [hX] at x0 x1 x2
 go_enter Tryz.func115,Tryz.ntmps115
 go_wp2_with fail
 rw [← hX]
 clear hX x0 x1 x2
 go_ret
 exact ⟨Hcx.out.any,.inr ⟨_,s,_,D,rfl,rfl,HM.out,fun k hk=> .inl hk,Hok.out,Nat.le_refl _,⟨_,MOwn.nil _ _⟩,fun q hq e=>by simp [Value.ownBlock] at hq,by simp,fun m hm=>by cases hm⟩⟩
def ClonePost (ms:List Mvi) (w:World) (e:Ending) (w':World):Prop:=Chg Nob w w'∧∃ v ys,e = .returned v∧MOwn w' w.heap.size v ms ys
theorem mclone_any {w:World} {ao:Option Addr} {c:Nat} {xs:List MvS} {ms:List Mvi} (hfst:xs.map (·.1)=ms) (h:MIn w ao xs) (hnil:ao=none→c=0) (hl:ms.length≤10000) :
 Calls Tryz.prog 154 #[.slice ao ms.length c] w (ClonePost ms w):=by
 have hq:∀ (w:World) (a:Option Addr) (n c:Nat),(Go.binOp .eql 67 (.slice a n c) (.slice none 0 0)).run Tryz.prog w = .ok (.bool a.isNone) w:=fun w a n c=>Lib.run_eql_slice_nil w 67 75 a n c 0 0 Tryz.underlying67
 cases ao with
 | none =>
   have hxs:xs=[]:=by
    cases xs with
    | nil=>rfl
    | cons y ys=>obtain ⟨_,_,e,_⟩:=h 0 y rfl;cases e
   subst hxs
   obtain rfl:ms=[]:=by rw [← hfst];rfl
   obtain rfl:=hnil rfl
   go_enter Tryz.func154,Tryz.ntmps154
   go_wp2_with fail
   go_ret
   exact ⟨Chg.refl _ _,_,[],rfl,MOwn.nil _ _⟩
 | some a =>
   obtain ⟨X,hX,hcX,hbX,hsX⟩:=box_cells w #[] 75
   have hrow:MOwn X w.heap.size (.slice (some ⟨w.heap.size,0,none⟩) 0 0) [] []:=⟨by
    have:=World.ownsRow_lit (base:=w.heap.size) (e:=75) (size:=3) w #[] 0 (Nat.le_refl _) (by unfold maxLen;omega) rfl
    rw [← hX] at this
    exact this,rfl,fun x h=>by cases h⟩
   obtain ⟨sl',W',hrun,hown,hc,-⟩:=hrow.concat (by omega) hfst (h.nob hcX) hnil (by simp;omega)
   have hcw:Chg Nob w W':=hcX.trans hc (fun i hi e=>Nat.lt_irrefl i (by
    have e2:w.heap.size=i:=by simpa [Value.ownBlock] using e
    omega))
   rw [List.nil_append,List.nil_append] at hown
   have Hown:=Lib.hid hown
   have Hcw:=Lib.hid hcw
   have Hrun:=Lib.hid hrun
   have HX:=Lib.hid hX
   clear hrow hrun hown hc hcw hbX hsX hcX hX h hfst
   go_enter Tryz.func154,Tryz.ntmps154
   go_wp2_with (first | (rw [← HX.out];refine wpList_append_known rfl _ _ 67 67 rfl _ _ rfl rfl _ W' Hrun.out ?_))
   go_ret
   exact ⟨Hcw.out,_,_,rfl,Hown.out⟩
end Go.Proofs.YtkgfdgfhpdhhaaaGreat
