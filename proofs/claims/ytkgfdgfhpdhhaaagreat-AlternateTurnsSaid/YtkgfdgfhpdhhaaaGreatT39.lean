/- Parts of the walks and of the plain theory, the first: alternate.Of: the automaton lies in the world, or there is a reason why there is none. Conditions: the formula and the names lie in the world; the sets' contract. -/
import Derived.Test.YtkgfdgfhpdhhaaaGreatT38
import Derived.Test.YtkgfdgfhpdhhaaaGreatT15
import Derived.Test.YtkgfdgfhpdhhaaaGreatT21
import Derived.Test.YtkgfdgfhpdhhaaaGreatT30
import Derived.Test.YtkgfdgfhpdhhaaaGreatT31
import Derived.Test.YtkgfdgfhpdhhaaaGreatT24
import Derived.Test.YtkgfdgfhpdhhaaaGreatT34
import Derived.Test.YtkgfdgfhpdhhaaaGreatT33
namespace Go.Proofs.YtkgfdgfhpdhhaaaGreat
open Go.ChangeShapes Go.WideShapes Go.ChangeAt Go.RowKit Go.Maps
attribute [local go_sem] Oper.semAt_some
set_option maxRecDepth 100000
set_option maxHeartbeats 8000000
def OfBad (t:T) (names:List (List UInt8)) (f:(MkS→Option (List (List Int) × MkS))):Prop:=checkedN t names 0 1≠0∨normN t≠0∨f ⟨[],[]⟩=none∨∃ I s',f ⟨[],[]⟩=some (I,s')∧checkAN I s'.sts≠0
def OfPost (t:T) (names:List (List UInt8)) (f:(MkS→Option (List (List Int) × MkS))) (w:World) (e:Ending) (w':World):Prop:=Chg Nob w w'∧((∃ c,c≠0∧e = .returned (.tuple #[.agg #[.slice none 0 0,.slice none 0 0],.int .i64 c])∧OfBad t names f) ∨
 ∃ I s' ai ci as' cs,e = .returned (.tuple #[.agg #[.slice ai I.length ci,.slice as' s'.sts.length cs],.int .i64 0])∧LRow w' ai I∧SRow w' as' s'.sts∧checkedN t names 0 1=0∧normN t=0∧f ⟨[],[]⟩=some (I,s')∧checkAN I s'.sts=0)
theorem of_any {t:T} {v:Value} {w:World} {an:Option Addr} {cn:Nat} {names:List (List UInt8)} {f:MkS→Option (List (List Int) × MkS)} (ht:TI w t v) (hN:sizeT t≤1000000) (hnm:Texts w (.slice an names.length cn) names) (hcn:names.length≤cn)
 (hS:∀ r,RewOf t r→checkedN t names 0 1=0→normN t=0→∀ (R:Nat→Prop) (mb:Nat),SetsC R mb (.slice an names.length cn) names r f) :
 Calls Tryz.prog 11 #[v,.slice an names.length cn] w (OfPost t names f w):=by
 have hmf:∀ (fn:Fn) (first cap:Array Value) (w:World),(Instr.makeFunc fn first cap).run Tryz.prog w = .ok (.func fn first cap) w:=fun _ _ _ _=>rfl
 have hmm:=@run_makeMap Tryz.prog
 obtain ⟨a0,c0,rfl⟩:=ht.agg
 obtain ⟨B,hB⟩:∃ B,B=w.heap.size:=⟨_,rfl⟩
 obtain ⟨X1,hX1,hcX1,hbX1,hsX1⟩:=box_cells w #[.int .i64 t.kind,.string ⟨t.name.toArray⟩,.slice a0 t.kids.length c0] 24
 obtain ⟨X2,hX2,hcX2,hbX2,hsX2⟩:=box_cells X1 #[.slice none 0 0,.slice none 0 0] 38
 obtain ⟨X3,hX3,hcX3,hbX3,hsX3⟩:=box_cells X2 #[.int .i64 0] 32
 obtain ⟨X4,hX4,hcX4,hbX4,hsX4⟩:=box_cells X3 #[.int .u64 0] 53
 rw [hsX1] at hbX2 hsX2
 rw [hsX2] at hbX3 hsX3
 rw [hsX3] at hbX4 hsX4
 rw [← hB] at hbX1 hsX1 hbX2 hsX2 hbX3 hsX3 hbX4 hsX4
 have hc14:Chg Nob X1 X4:=(hcX2.trans1 hcX3).trans1 hcX4
 have hcw4:Chg Nob w X4:=hcX1.trans1 hc14
 have b1:=hc14.at hbX1 (fun e=>e)
 have b2:=(hcX3.trans1 hcX4).at hbX2 (fun e=>e)
 have b3:=hcX4.at hbX3 (fun e=>e)
 have b13:=(hcX2.trans1 hcX3).at hbX1 (fun e=>e)
 have hs3:=hsX3
 have htab:Calls Tryz.prog 28 #[.agg #[.int .i64 t.kind,.string ⟨t.name.toArray⟩,.slice a0 t.kids.length c0],.slice an names.length cn,.agg #[.slice none 0 0,.slice (some ⟨B+1+1+1,0,none⟩) 1 1]] X4 (TabPost t names [] [0] X4) :=
  table_any (P:=[]) (L:=[0]) (ht.nob hcw4) hN (fun b hb=>by have:=hcw4.size;omega) (Texts.nob hnm hcw4) hcn (by simp) (fun j x h=>by simp at h) (fun j x h=>by
   have hj0:j=0:=by have:=(List.getElem?_eq_some_iff.1 h).1;simp at this;omega
   subst hj0
   cases h
   exact ⟨_,rfl,by rw [Go.WideShapes.add_plain];exact cell_row hbX4 0 rfl⟩) (fun _=>rfl) (fun e=>by cases e)
 have Ht:=Lib.hid (ht.nob hcw4)
 have Hnm:=Lib.hid (Texts.nob hnm hcw4)
 have Hcw4:=Lib.hid hcw4
 have Hb1:=Lib.hid b1
 have Hb2:=Lib.hid b2
 have Hb3:=Lib.hid b3
 have Hs4:Hid (X4.heap.size=B+1+1+1+1):=Lib.hid hsX4
 have HX2:=Lib.hid hX2
 have HX3:=Lib.hid hX3
 have HX4:=Lib.hid hX4
 have HB:=Lib.hid hB
 have Hb13:=Lib.hid b13
 have Hs3:Hid (X3.heap.size=B+1+1+1):=Lib.hid hs3
 clear ht hnm hcw4 b1 b2 b3 hX2 hX3 hX4 hcX1 hcX2 hcX3 hcX4 hbX1 hbX2 hbX3 hbX4 hsX1 hsX2 hsX3 hsX4 hc14 b13 hs3
 go_enter_defers Tryz.func11,Tryz.ntmps11
 go_upto_region 1 with fail
 rw [← hX1,← HB.out]
 clear hX1 hB
 rw [← HX2.out,← HX3.out]
 obtain ⟨x0,x1,x2,_⟩:=cells_three Hb13.out
 go_wp2_with fail
 rw [← HX4.out,Hs3.out]
 (with_reducible refine htab.mono ?_)
 clear htab x0 x1 x2
 rintro e w1 ⟨hc1,⟨hc0,gr,hgr,rfl,-⟩ | ⟨hne,rfl⟩⟩
 rotate_left
 ·have hcw1:Chg Nob w w1:=Hcw4.out.trans1 hc1
  have b21:=hc1.at Hb2.out (fun e=>e)
  have b31:=hc1.at Hb3.out (fun e=>e)
  have hne:checkedN t names 0 1≠0:=hne
  obtain ⟨cc,hcc⟩:∃ cc,cc=checkedN t names 0 1:=⟨_,rfl⟩
  have hcc2:checkedN t names ([]:List Int).length ([0]:List Int).length=cc:=hcc.symm
  have hcn0:cc≠0:=by rw [hcc];exact hne
  have hcb:(cc != 0)=true:=bne_iff_ne.2 hcn0
  obtain ⟨f0,f1,g0,g1⟩:=cell_two b21
  obtain ⟨e0,ef⟩:=cell_oneM b31
  have s1:=setCell_self (j:=0) (x:= .slice none 0 0) b21 rfl
  have s2:=setCell_self (j:=1) (x:= .slice none 0 0) b21 rfl
  have S1:=Lib.hid s1
  have S2:=Lib.hid s2
  have Hcc:=Lib.hid hcc
  have Hcn0:=Lib.hid hcn0
  have Hne:=Lib.hid hne
  have Hw1:=Lib.hid hcw1
  have Hb21:=Lib.hid b21
  have Hb31:=Lib.hid b31
  rw [hcc2]
  clear hcc hcc2 hne hcn0 hc1 hcw1 b21 b31 s1 s2 hS
  go_wp2_with fail
  rw [S1.out,S2.out]
  have hx:=(Chg.refl (At1 (B+1+1)) w1).setCell (p:=⟨B+1+1,0,none⟩) (fun _=>rfl) (.int .i64 cc)
  exact ⟨_,results11 rfl rfl (hx.at Hb21.out (fun e=>by have e:B+1=B+1+1:=e;omega)) (block_one_set Hb31.out),(Hw1.out.any.trans1 hx).mono (fun i hi e=>by have e:i=B+1+1:=e;have:=HB.out;omega),.inl ⟨cc,Hcn0.out,rfl,.inl Hne.out⟩⟩
 have hc0:checkedN t names 0 1=0:=hc0
 have hrw:=Rewrite_any (TI.nob Ht.out hc1) hN
 have Hc1:Hid (Chg Nob w w1):=Lib.hid (Hcw4.out.trans1 hc1)
 have Hb11:=Lib.hid (hc1.at Hb1.out (fun e=>e))
 have Hb21:=Lib.hid (hc1.at Hb2.out (fun e=>e))
 have Hb31:=Lib.hid (hc1.at Hb3.out (fun e=>e))
 have Hnm1:=Lib.hid (Texts.nob Hnm.out hc1)
 have Hs1:Hid (B+1+1+1+1≤w1.heap.size):=(show _≤_ by have:=hc1.size;have:=Hs4.out;omega)
 obtain ⟨x0,x1,x2,_⟩:=cells_three Hb11.out
 clear hc1 hgr
 go_wp2_with fail
 (with_reducible refine hrw.mono ?_)
 clear hrw x0 x1 x2
 rintro e w2 ⟨hc2,r',ao,cap,hre,hTr,rfl⟩
 by_cases hn0:normN t=0
 rotate_left
 ·obtain ⟨X5,hX5,hcX5,hbX5,hsX5⟩:=box_cells w2 #[.int .i64 r'.kind,.string ⟨r'.name.toArray⟩,.slice ao r'.kids.length cap] 24
  have hc25:Chg Nob w X5:=(Hc1.out.trans1 hc2).trans1 hcX5
  have b25:=hcX5.at (hc2.at Hb21.out (fun e=>e)) (fun e=>e)
  have b35:=hcX5.at (hc2.at Hb31.out (fun e=>e)) (fun e=>e)
  obtain ⟨cc,hcc⟩:∃ cc,cc=normN t:=⟨_,rfl⟩
  have hcn0:cc≠0:=by rw [hcc];exact hn0
  have hcb:(cc != 0)=true:=bne_iff_ne.2 hcn0
  obtain ⟨V,hV⟩:∃ V,V=X5.setCell ⟨B+1+1,0,none⟩ (.int .i64 cc):=⟨_,rfl⟩
  have hcV:Chg (At1 (B+1+1)) X5 V:=by rw [hV];exact (Chg.refl (At1 (B+1+1)) X5).setCell (p:=⟨B+1+1,0,none⟩) (fun _=>rfl) _
  have b3V:V.heap[B+1+1]? = some (.cells #[.int .i64 cc] 32 (0,0)):=by rw [hV];exact block_one_set b35
  have b2V:=hcV.at b25 (fun e=>by have e:B+1=B+1+1:=e;omega)
  obtain ⟨f0,f1,g0,g1⟩:=cell_two b2V
  obtain ⟨e0,ef⟩:=cell_oneM b35
  obtain ⟨d0,df⟩:=cell_oneM b3V
  have s1:=setCell_self (j:=0) (x:= .slice none 0 0) b2V rfl
  have s2:=setCell_self (j:=1) (x:= .slice none 0 0) b2V rfl
  have S1:=Lib.hid s1
  have S2:=Lib.hid s2
  have HV:=Lib.hid hV
  have HX5:=Lib.hid hX5
  have Hn0:=Lib.hid hn0
  have HcV:Hid (Chg Nob w V):=Lib.hid ((hc25.any.trans1 hcV).mono (fun i hi e=>by have e:i=B+1+1:=e;have:=HB.out;omega))
  have Hb2V:=Lib.hid b2V
  have Hb3V:=Lib.hid b3V
  rw [← hcc]
  rw [hX5] at e0 ef
  clear hcc hn0 hcn0 hc2 hTr hre hX5 hcX5 hbX5 hsX5 hc25 b25 b35 hV hcV b3V b2V s1 s2 hS hc0
  go_upto_region 5 with fail
  rw [← HX5.out,← HV.out]
  clear e0 ef
  go_wp2_with fail
  rw [S1.out,S2.out]
  have hx:=(Chg.refl (At1 (B+1+1)) V).setCell (p:=⟨B+1+1,0,none⟩) (fun _=>rfl) (.int .i64 131)
  exact ⟨_,results11 rfl rfl (hx.at Hb2V.out (fun e=>by have e:B+1=B+1+1:=e;omega)) (block_one_set Hb3V.out),(HcV.out.any.trans1 hx).mono (fun i hi e=>by have e:i=B+1+1:=e;have:=HB.out;omega),.inl ⟨131,by decide,rfl,.inr (.inl Hn0.out)⟩⟩
 rw [hn0]
 have hS:=hS r' hre hc0 hn0
 have Hc0:=Lib.hid hc0
 have Hn0:=Lib.hid hn0
 obtain ⟨X5,hX5,hcX5,hbX5,hsX5⟩:=box_cells w2 #[.int .i64 r'.kind,.string ⟨r'.name.toArray⟩,.slice ao r'.kids.length cap] 24
 have hc25:Chg Nob w X5:=(Hc1.out.trans1 hc2).trans1 hcX5
 have b25:=hcX5.at (hc2.at Hb21.out (fun e=>e)) (fun e=>e)
 have b35:=hcX5.at (hc2.at Hb31.out (fun e=>e)) (fun e=>e)
 obtain ⟨V0,hV0⟩:∃ V0,V0=X5.alloc (.map #[] 0):=⟨_,rfl⟩
 obtain ⟨V,hV⟩:∃ V,V=V0.alloc (.cells #[.slice an names.length cn,.slice none 0 0,.map (some X5.heap.size),.int .i64 0] 62):=⟨_,rfl⟩
 have hini:=MkIs.init hV0 hV
 have hcV:=hini.1
 have hTV:IsTree (fun b=>b < X5.heap.size) V r' (.agg #[.int .i64 r'.kind,.string ⟨r'.name.toArray⟩,.slice ao r'.kids.length cap]):=IsTree.mono (fun a v hb hc=>(hcX5.trans1 hcV).cell' hc (fun e=>e)) (fun b hb=>by have h9:b < w2.heap.size:=hb;have:=hcX5.size;show b < X5.heap.size;omega) _ _ hTr
 have hTxV:Texts V (.slice an names.length cn) names:=Texts.nob Hnm1.out ((hc2.trans1 hcX5).trans1 hcV)
 have hNV:NmIs (fun b=>b < X5.heap.size) V (.slice an names.length cn) names:=⟨hTxV,fun b o n c e hne=>by
  obtain ⟨ao2,cp2,e2,_,hx⟩:=Texts.nob Hnm1.out (hc2.trans1 hcX5)
  obtain ⟨x,hx0⟩:∃ x,names[0]? = some x:=by
   cases names with
   | nil=>exact absurd rfl hne
   | cons x l=>exact ⟨x,rfl⟩
  obtain ⟨b9,o9,e9,hc9⟩:=hx 0 x hx0
  rw [e] at e2
  simp only [Value.slice.injEq] at e2
  rw [← e2.1] at e9
  cases e9
  exact World.block_lt_of_cell? _ _ hc9⟩
 have hsets:=hS (fun b=>b < X5.heap.size) (X5.heap.size+1) V _ ⟨[],[]⟩ _ hini.2 ⟨fun k n h=>(by cases h),(by simp),fun i st h=>(by simp at h)⟩ hTV hNV (fun q hq hr=>by have hr:q < X5.heap.size:=hr;rcases hq with rfl | rfl <;> omega) (fun q hq=>Nat.lt_of_lt_of_le hq hcV.size)
 have bT:=hcV.at hbX5 (fun e=>e)
 have HcV:Hid (Chg Nob w V):=Lib.hid (hc25.trans1 hcV)
 have Hb2V:=Lib.hid (hcV.at b25 (fun e=>e))
 have Hb3V:=Lib.hid (hcV.at b35 (fun e=>e))
 have HsV:Hid (B+1+1+1+1≤X5.heap.size∧X5.heap.size+2=V.heap.size):=(show _∧_ from ⟨by have:=Hs1.out;have:=hc2.size;have:=hcX5.size;omega,by rw [hV,World.size_alloc,hV0,World.size_alloc]⟩)
 have Hse:Hid (X5.setCell ⟨B+1+1,0,none⟩ (.int .i64 0)=X5):=Lib.hid (setCell_self b35 rfl)
 have e0:=cell_row b35 0 (v:= .int .i64 0) rfl
 have ef:X5.frozen? ⟨B+1+1,0,none⟩=false:=by simp [World.frozen?,b35]
 have Hbt:=Lib.hid bT
 have HX5:=Lib.hid hX5
 have HV0:=Lib.hid hV0
 have HV:=Lib.hid hV
 rw [hX5] at e0 ef
 clear hc2 hTr hre hX5 hV0 hV hcX5 hbX5 hsX5 hc25 b25 b35 hini hcV hTV hTxV hNV bT hS hc0 hn0
 go_upto_region 5 with fail
 rw [← HX5.out,Hse.out]
 rw [← HX5.out] at e0 ef
 obtain ⟨t0,t1,t2,_⟩:=cells_three Hbt.out
 go_upto_region 9 with fail
 rw [← HV0.out,← HV.out]
 go_wp2_with fail
 (with_reducible refine hsets.mono ?_)
 clear hsets t0 t1 t2 e0 ef
 rintro e w3 ⟨hc3,⟨hf2,rfl⟩ | ⟨I,s',slI,D3,hf2,rfl,hM3,hg3,hok3,-,⟨xI,hown⟩,hnI,hIl,-⟩⟩
 ·have hc3B:∀ q,(q=X5.heap.size+1∨q=X5.heap.size)→¬ q < X5.heap.size:=fun q e=>by omega
  have b23:=hc3.at Hb2V.out (fun e=>hc3B _ e (by have:=HsV.out;omega))
  have b33:=hc3.at Hb3V.out (fun e=>hc3B _ e (by have:=HsV.out;omega))
  have hc3w:Chg Nob w w3:=HcV.out.trans hc3 (fun i hi e=>hc3B i e (by have:=HB.out;have:=HsV.out;omega))
  have Hf:=Lib.hid hf2
  have Hc3:=Lib.hid hc3w
  have H2:=Lib.hid b23
  have H3:=Lib.hid b33
  clear hf2 hc3 hc3B b23 b33 hc3w
  try go_simp
  refine leaves_cons (f:=29) (args:=#[.pointer (some ⟨B+1,0,none⟩),.pointer (some ⟨B+1+1,0,none⟩)]) (by simp) (by simp [go_sem]) ?_
  refine (acatch_much (B+1) (B+1+1) _ _ _ _ H2.out H3.out (by omega)).mono ?_
  rintro e u' w'' ⟨rfl,rfl,hc9,hb8,hb9⟩
  exact ⟨_,results11 rfl rfl hb8 hb9,Hc3.out.trans hc9 (fun i hi e=>by have:=HB.out;rcases e with e | e <;> omega),.inl ⟨131,by decide,rfl,.inr (.inr (.inl Hf.out))⟩⟩
 have hc3B:∀ q,(q=X5.heap.size+1∨q=X5.heap.size)→¬ q < X5.heap.size:=fun q e=>by omega
 have b23:=hc3.at Hb2V.out (fun e=>hc3B _ e (by have:=HsV.out;omega))
 have b33:=hc3.at Hb3V.out (fun e=>hc3B _ e (by have:=HsV.out;omega))
 have hc3w:Chg Nob w w3:=HcV.out.trans hc3 (fun i hi e=>hc3B i e (by have:=HB.out;have:=HsV.out;omega))
 obtain ⟨ai,ci,rfl,-⟩:=hown.lrow
 have hD3:¬ D3 (B+1):=fun e=>by
  rcases hg3 _ e with e | e
  ·exact hc3B _ e (by have:=HsV.out;omega)
  ·have:=HsV.out;omega
 have hB1:∀ {W:World} {x y:Value},W.heap[B+1]? = some (.cells #[x,y] 38 (0,0))→∀ q,At1 (B+1) q→∀ cs t m,W.heap[q]? = some (.cells cs t m)→t=38:=fun hb q e cs t m h=>by
  have e:q=B+1:=e
  subst e
  rw [hb] at h
  simp at h
  exact h.2.1.symm
 obtain ⟨w4,hw4⟩:∃ w4,w4=w3.setCell ⟨B+1,0,none⟩ (.slice ai I.length ci):=⟨_,rfl⟩
 have hc4:Chg (At1 (B+1)) w3 w4:=by rw [hw4];exact (Chg.refl (At1 (B+1)) w3).setCell (p:=⟨B+1,0,none⟩) (fun _=>rfl) _
 have b24:w4.heap[B+1]? = some (.cells #[.slice ai I.length ci,.slice none 0 0] 38 (0,0)):=by rw [hw4];exact block_two_set0 b23
 have hM4:=hM3.keep hc4 (fun q e hq=>by have e:q=B+1:=e;subst e;exact hD3 hq) (fun q e cs m h=>absurd (hB1 b23 q e cs 3 m h) (by decide))
 have hown4:=hown.typed hc4 (fun q hq e=>by
  obtain ⟨cs,m,hb⟩:=ownsRow_block hown.own q hq
  exact absurd (hB1 b23 q e cs 73 m hb) (by decide)) (fun q e cs m h=>absurd (hB1 b23 q e cs 3 m h) (by decide))
 obtain ⟨as',cs',hcell,-⟩:=hM4.srow
 obtain ⟨w5,hw5⟩:∃ w5,w5=w4.setCell ⟨B+1,1,none⟩ (.slice as' s'.sts.length cs'):=⟨_,rfl⟩
 have hc5:Chg (At1 (B+1)) w4 w5:=by rw [hw5];exact (Chg.refl (At1 (B+1)) w4).setCell (p:=⟨B+1,1,none⟩) (fun _=>rfl) _
 have b25:w5.heap[B+1]? = some (.cells #[.slice ai I.length ci,.slice as' s'.sts.length cs'] 38 (0,0)):=by rw [hw5];exact block_two_set1 b24
 have hM5:=hM4.keep hc5 (fun q e hq=>by have e:q=B+1:=e;subst e;exact hD3 hq) (fun q e cs m h=>absurd (hB1 b24 q e cs 3 m h) (by decide))
 have hown5:=hown4.typed hc5 (fun q hq e=>by
  obtain ⟨cs,m,hb⟩:=ownsRow_block hown4.own q hq
  exact absurd (hB1 b24 q e cs 73 m hb) (by decide)) (fun q e cs m h=>absurd (hB1 b24 q e cs 3 m h) (by decide))
 obtain ⟨as2,cs2,hcell2,hSR⟩:=hM5.srow
 have hmbB:X5.heap.size+1≠B+1:=by have:=HsV.out;omega
 have hcell5:=hc5.cell' hcell (fun e=>hmbB e)
 rw [hcell5] at hcell2
 simp only [Option.some.injEq,Value.slice.injEq,true_and] at hcell2
 obtain ⟨rfl,rfl⟩:=hcell2
 obtain ⟨ai2,ci2,e2,hLR⟩:=hown5.lrow
 simp only [Value.slice.injEq,true_and] at e2
 obtain ⟨rfl,rfl⟩:=e2
 have hchk:=acheck_any (ci:=ci) (cs:=cs') (by have:=hIl;omega) (by have:=hok3.2.1;omega) hLR hSR
 obtain ⟨f0,f1,g0,g1⟩:=cell_two b23
 obtain ⟨f40,f41,g40,g41⟩:=cell_two b24
 obtain ⟨f50,f51,_⟩:=cell_two b25
 have b34:=hc4.at b33 (fun e=>by have e:B+1+1=B+1:=e;omega)
 have b35:=hc5.at b34 (fun e=>by have e:B+1+1=B+1:=e;omega)
 have Hw5:Hid (Chg Nob w w5):=Lib.hid (((hc3w.any (S:=At1 (B+1))).trans1 hc4).trans1 hc5 |>.mono (fun i hi e=>by have e:i=B+1:=e;have:=HB.out;omega))
 have Hb25:=Lib.hid b25
 have Hb35:=Lib.hid b35
 have HLR:=Lib.hid hLR
 have HSR:=Lib.hid hSR
 have Hw4:=Lib.hid hw4
 have Hw5e:=Lib.hid hw5
 have Hf:=Lib.hid hf2
 clear hf2 hc3 hM3 hg3 hok3 hown hnI hIl hc3B b23 b33 hc3w hD3 hB1 hw4 hc4 b24 hM4 hown4 hw5 hc5 b25 hM5 hown5 hSR hLR b34 b35 hcell5 hmbB
 go_upto_region 10 with fail
 rw [← Hw4.out]
 go_upto_region 11 with fail
 rw [← Hw5e.out]
 go_wp2_with fail
 (with_reducible refine hchk.mono ?_)
 clear hchk f0 f1 g0 g1 f40 f41 g40 g41 f50 f51 hcell
 rintro e w6 ⟨rfl,hc6⟩
 by_cases hck:checkAN I s'.sts=0
 rotate_left
 ·have hne:checkAN I s'.sts≠0:=hck
  obtain ⟨cc,hcc⟩:∃ cc,cc=checkAN I s'.sts:=⟨_,rfl⟩
  have hcb:(cc != 0)=true:=bne_iff_ne.2 (by rw [hcc];exact hne)
  have b26:=hc6.at Hb25.out (fun e=>e)
  have b36:=hc6.at Hb35.out (fun e=>e)
  have q1:=block_two_set0 (u:= .slice none 0 0) b26
  obtain ⟨f0,f1,g0,g1⟩:=cell_two b26
  obtain ⟨e0,ef⟩:=cell_oneM b36
  have Hne:=Lib.hid hne
  have Hw6:Hid (Chg Nob w w6):=Lib.hid (Hw5.out.trans1 hc6)
  have H2:=Lib.hid b26
  have H3:=Lib.hid b36
  rw [← hcc]
  clear hne hcc hck hc6 b26 b36 q1
  go_wp2_with fail
  have hx:=(Chg.refl (At1 (B+1)) w6).setCell (p:=⟨B+1,0,none⟩) (fun _=>rfl) (.slice none 0 0) |>.setCell (p:=⟨B+1,1,none⟩) (fun _=>rfl) (.slice none 0 0)
  have h3:=block_two_set1 (u:= .slice none 0 0) (block_two_set0 (u:= .slice none 0 0) H2.out)
  have k3:=hx.at H3.out (fun e=>by have e:B+1+1=B+1:=e;omega)
  have hy:=(Chg.refl (At1 (B+1+1)) ((w6.setCell ⟨B+1,0,none⟩ (.slice none 0 0)).setCell ⟨B+1,1,none⟩ (.slice none 0 0))).setCell (p:=⟨B+1+1,0,none⟩) (fun _=>rfl) (.int .i64 131)
  refine leaves_cons (f:=29) (args:=#[.pointer (some ⟨B+1,0,none⟩),.pointer (some ⟨B+1+1,0,none⟩)]) (by simp) (by simp [go_sem]) ?_
  refine (acatch_idle ⟨B+1,0,none⟩ ⟨B+1+1,0,none⟩ _).mono ?_
  rintro e u' w'' ⟨rfl,rfl,rfl⟩
  exact ⟨_,results11 rfl rfl (hy.at h3 (fun e=>by have e:B+1=B+1+1:=e;omega)) (block_one_set k3),(((Hw6.out.any.trans1 hx).mono (fun i hi e=>by have e:i=B+1:=e;have:=HB.out;omega):Chg Nob w _).any.trans1 hy).mono (fun i hi e=>by have e:i=B+1+1:=e;have:=HB.out;omega),.inl ⟨131,by decide,rfl,.inr (.inr (.inr ⟨I,s',Hf.out,Hne.out⟩))⟩⟩
 have Hck:=Lib.hid hck
 rw [hck]
 clear hck
 have b26:=hc6.at Hb25.out (fun e=>e)
 have b36:=hc6.at Hb35.out (fun e=>e)
 obtain ⟨f0,f1,g0,g1⟩:=cell_two b26
 have e0:=cell_row b36 0 (v:= .int .i64 0) rfl
 have ef:w6.frozen? ⟨B+1+1,0,none⟩=false:=by simp [World.frozen?,b36]
 have s1:=setCell_self (j:=0) (x:= .slice ai I.length ci) b26 rfl
 have s2:=setCell_self (j:=1) (x:= .slice as' s'.sts.length cs') b26 rfl
 have s3:=setCell_self (j:=0) (x:= .int .i64 0) b36 rfl
 have S1:=Lib.hid s1
 have S2:=Lib.hid s2
 have S3:=Lib.hid s3
 have Hb26:=Lib.hid b26
 have Hb36:=Lib.hid b36
 have Hend:Hid (Chg Nob w w6):=Lib.hid (Hw5.out.trans1 hc6)
 have HL6:=Lib.hid (HLR.out.nob hc6)
 have HS6:=Lib.hid (HSR.out.nob hc6)
 clear b26 b36 s1 s2 s3 hc6
 go_wp2_with fail
 rw [S1.out,S2.out,S3.out]
 refine leaves_cons (f:=29) (args:=#[.pointer (some ⟨B+1,0,none⟩),.pointer (some ⟨B+1+1,0,none⟩)]) (by simp) (by simp [go_sem]) ?_
 refine (acatch_idle ⟨B+1,0,none⟩ ⟨B+1+1,0,none⟩ _).mono ?_
 rintro e u' w'' ⟨rfl,rfl,rfl⟩
 exact ⟨_,results11 rfl rfl Hb26.out Hb36.out,Hend.out,.inr ⟨I,s',ai,ci,as',cs',rfl,HL6.out,HS6.out,Hc0.out,Hn0.out,Hf.out,Hck.out⟩⟩
end Go.Proofs.YtkgfdgfhpdhhaaaGreat
namespace Go.Proofs.YtkgfdgfhpdhhaaaGreat
open Go.ChangeShapes Go.WideShapes Go.RowKit
attribute [local go_sem] Oper.semAt_some
set_option maxRecDepth 100000
set_option maxHeartbeats 2000000
theorem results27 {rb:Nat} {tm:Array Value} {w:World} {x y z:Value} (h2:tm[0]? = some (.pointer (some ⟨rb,0,none⟩))) (hb:w.heap[rb]? = some (.cells #[x,y,z] 24 (0,0))) :
 (results Tryz.f27 tm).run Tryz.prog w = .ok (.agg #[x,y,z]) w:=by
 obtain ⟨c0,c1,c2,_⟩:=cells_three hb
 simp [results,Tryz.results27,go_sem,h2,c0,c1,c2]
def nPz:T:= .node 3 [112] []
def nQz:T:= .node 3 [113] []
def tUz:T:= .node 12 [] [nPz,nQz]
theorem until_law (w:World):Calls Tryz.prog 27 #[] w fun e w'=>Chg Nob w w'∧∃ g,e = .returned (.agg #[.int .i64 12,.string ⟨#[]⟩,.slice (some ⟨g,0,none⟩) 2 2])∧w.heap.size≤g∧w'.heap[g]? = some (.cells #[.int .i64 3,.string ⟨#[112]⟩,.slice none 0 0,.int .i64 3,.string ⟨#[113]⟩,.slice none 0 0] 24 (0,0)):=by
 obtain ⟨A,hA⟩:∃ A,A=Obj.cells #[.int .i64 12,.string ⟨#[]⟩,.slice (some ⟨w.heap.size+1,0,none⟩) 2 2] 24 (0,0):=⟨_,rfl⟩
 obtain ⟨B,hB⟩:∃ B,B=Obj.cells #[.int .i64 3,.string ⟨#[112]⟩,.slice none 0 0,.int .i64 3,.string ⟨#[113]⟩,.slice none 0 0] 24 (0,0):=⟨_,rfl⟩
 have h1:=heap_alloc_new (w.alloc A) B
 rw [World.size_alloc] at h1
 have h0:((w.alloc A).alloc B).heap[w.heap.size]? = some A:=((Chg.refl Nob _).alloc B).at (heap_alloc_new w A) (fun e=>e)
 have hc:Chg Nob w ((w.alloc A).alloc B):=((Chg.refl _ _).alloc _).alloc _
 rw [hA] at h0
 rw [hB] at h1
 rw [hA,hB] at hc
 rw [hB] at h0
 rw [hA] at h1
 clear hA hB
 go_enter Tryz.func27,Tryz.ntmps27
 go_wp2_with fail
 exact bodyPost_ret (results27 rfl h0) rfl ⟨hc,w.heap.size+1,rfl,by omega,h1⟩
end Go.Proofs.YtkgfdgfhpdhhaaaGreat
namespace Go.Proofs.YtkgfdgfhpdhhaaaGreat
open Go.ChangeShapes Go.WideShapes Go.RowKit
open PL (F)
theorem check_Uz:checkN tUz=0:=by
 have h1:mayT tUz=true:=by
  simp [tUz,nPz,nQz,mayT,mayL,okNode,kidsOf]
  decide
 have h2:depthT tUz=2:=by simp [tUz,nPz,nQz,depthT,depthL]
 unfold checkN
 rw [h1,h2];rfl
theorem size_Uz:sizeT tUz=3:=by simp [tUz,nPz,nQz,sizeT,sizeL]
theorem names_Uz:namesT tUz=[[112],[113]]:=by
 have e:pnames (allT tUz)=[[112],[113]]:=by
  simp [tUz,nPz,nQz,allT,allL,pnames,T.kind,T.name]
 unfold namesT
 rw [e,List.mergeSort_of_pairwise (by decide)]
 decide
theorem checked_Uz:checkedN tUz [[112],[113]] 0 1=0:=by
 unfold checkedN
 rw [check_Uz,size_Uz,names_Uz]
 decide
theorem nf_Uz:nfT tUz false=tUz:=by simp [tUz,nPz,nQz,nfT,nfL,flipK]
theorem norm_Uz:normN tUz=0:=by
 unfold normN
 rw [if_pos check_Uz,nf_Uz,size_Uz]
 rfl
theorem rew_Uz (r:T) (h:RewOf tUz r):r=tUz:=by
 rcases h with ⟨h,_⟩ | ⟨_,f,hf,_,rfl⟩
 ·exact absurd norm_Uz h
 ·have e:tUz=tF (.un (.pr [112]) (.pr [113])):=rfl
  unfold normT at hf
  rw [if_pos norm_Uz,nf_Uz,e] at hf
  rw [← tF_inj _ _ hf]
  rfl
theorem joinI_own:joinI [] [(0:Int)]=[0]:=by
 unfold joinI
 rw [List.nil_append,List.mergeSort_of_pairwise (by decide)]
 decide
def fPz:MkS→Option (List Mvi × MkS):=fun s=>some ([⟨bitI [[112],[113]] [112],0,[]⟩],s)
def fQz:MkS→Option (List Mvi × MkS):=fun s=>some ([⟨bitI [[112],[113]] [113],0,[]⟩],s)
def aUz:MkS:=⟨[⟨true,[⟨2,0,[]⟩,⟨1,0,[0]⟩]⟩],[(keyT tUz,0)]⟩
theorem both_Uz:bothO [⟨1,0,[]⟩] [⟨0,0,[((0:Nat):Int)]⟩]=some [⟨1,0,[0]⟩]:=by
 have h:pairsI [⟨1,0,[]⟩] [⟨0,0,[((0:Nat):Int)]⟩]=[⟨1,0,[0]⟩]:=by
  show [atP [⟨1,0,[]⟩] [⟨0,0,[((0:Nat):Int)]⟩] 0].filterMap id=_
  have e:atP [⟨1,0,[]⟩] [⟨0,0,[((0:Nat):Int)]⟩] 0=some ⟨1,0,[0]⟩:=by
   show (if bits .and .u64 (bits .or .u64 1 0) (bits .or .u64 0 0)=0 then some (⟨bits .or .u64 1 0,bits .or .u64 0 0,joinI [] [0]⟩:Mvi) else none)=_
   rw [joinI_own]
   rfl
  rw [e]
  rfl
 unfold bothO
 rw [h]
 rfl
theorem until_Uz:untilI fPz fQz ⟨[],[]⟩=some ([⟨2,0,[]⟩,⟨1,0,[0]⟩],⟨[],[]⟩):=by
 show Option.bind (bothO [⟨bitI [[112],[113]] [112],0,[]⟩] [⟨0,0,[((0:Nat):Int)]⟩]) (fun p=>(leastO ([⟨bitI [[112],[113]] [113],0,[]⟩]++p)).map fun q=>(q,(⟨[],[]⟩:MkS)))=_
 have e1:bitI [[112],[113]] [112]=1:=by decide
 have e2:bitI [[112],[113]] [113]=2:=by decide
 rw [e1,e2,both_Uz]
 rfl
theorem state_Uz:stateI (keyT tUz) true (untilI fPz fQz) ⟨[],[]⟩=some (0,aUz):=by
 rw [stateI_some (s':=⟨[],[]⟩) rfl until_Uz (by decide)]
 rfl
theorem check_aUz:checkAN [[0]] aUz.sts=0:=by decide
end Go.Proofs.YtkgfdgfhpdhhaaaGreat
namespace Go.Proofs.YtkgfdgfhpdhhaaaGreat
open Go.ChangeShapes Go.WideShapes Go.RowKit
attribute [local go_sem] Oper.semAt_some
set_option maxRecDepth 100000
set_option maxHeartbeats 8000000
theorem acc_1:accB [[0]] aUz.sts [1,1] [2]=true∧accCode [[0]] aUz.sts 2 1=0:=by decide
theorem acc_2:accB [[0]] aUz.sts [] [1]=false∧accCode [[0]] aUz.sts 0 1=0:=by decide
theorem tree_leafz {R:Nat→Prop} {W:World} (x:List UInt8):IsTree R W (.node 3 x []) (.agg #[.int .i64 3,.string ⟨x.toArray⟩,.slice none 0 0]):=IsTree.of_parts (t:= .node 3 x []) (Nat.zero_le _) (by rw [T.kids,IsKids];trivial)
theorem tree_Uz {W:World} {g:Nat} (h:W.heap[g]? = some (.cells #[.int .i64 3,.string ⟨#[112]⟩,.slice none 0 0,.int .i64 3,.string ⟨#[113]⟩,.slice none 0 0] 24 (0,0))):IsTree (At1 g) W tUz (.agg #[.int .i64 12,.string ⟨#[]⟩,.slice (some ⟨g,0,none⟩) 2 2]):=by
 refine IsTree.of_parts (t:=tUz) (by decide) ?_
 unfold tUz T.kids
 rw [IsKids,IsKids,IsKids]
 exact ⟨⟨g,0,_,_,_,rfl,rfl,cell_row h 0 rfl,cell_row h 1 rfl,cell_row h 2 rfl,tree_leafz [112]⟩,⟨g,0,_,_,_,rfl,rfl,cell_row h 3 rfl,cell_row h 4 rfl,cell_row h 5 rfl,tree_leafz [113]⟩,trivial⟩
theorem sets_Uz (R:Nat→Prop) (mb:Nat) (nv:Value):SetsC R mb nv [[112],[113]] tUz (fun s=>(stateI (keyT tUz) true (untilI fPz fQz) s).map fun x=>([[(x.1:Int)]],x.2)) :=
 sets_state (by decide) (state_until rfl rfl (by
  intro u hu
  simp [tUz,nPz,nQz,allT,allL] at hu
  rcases hu with rfl | rfl | rfl <;> simp [T.kind]) (by
  simp [tUz,nPz,nQz,keyT,keyL]) (ways_prop rfl (by decide) (by decide)) (ways_prop rfl (by decide) (by decide)))
theorem of_Uz {w:World} {g nb:Nat} (hb:w.heap[g]? = some (.cells #[.int .i64 3,.string ⟨#[112]⟩,.slice none 0 0,.int .i64 3,.string ⟨#[113]⟩,.slice none 0 0] 24 (0,0))) (hn:w.heap[nb]? = some (.cells #[.string ⟨#[112]⟩,.string ⟨#[113]⟩] 9 (0,0))) :
 Calls Tryz.prog 11 #[.agg #[.int .i64 12,.string ⟨#[]⟩,.slice (some ⟨g,0,none⟩) 2 2],.slice (some ⟨nb,0,none⟩) 2 2] w fun e w'=>Chg Nob w w'∧∃ ai ci as' cs,e = .returned (.tuple #[.agg #[.slice ai 1 ci,.slice as' 1 cs],.int .i64 0])∧LRow w' ai [[0]]∧SRow w' as' aUz.sts :=
 of_ok (t:=tUz) (r:=tUz) (names:=[[112],[113]]) (I:=[[0]]) (s':=aUz) (IsTree.mono (fun _ _ _ h=>h) (fun b e=>by have e:b=g:=e;subst e;exact (Array.getElem?_eq_some_iff.1 hb).1) _ _ (tree_Uz hb)) (by rw [size_Uz];decide)
  ⟨_,_,rfl,by decide,fun j x hj=>by
   match j,hj with
   | 0,hj=>cases hj;exact ⟨nb,0,rfl,cell_row hn 0 rfl⟩
   | 1,hj=>cases hj;exact ⟨nb,0,rfl,cell_row hn 1 rfl⟩⟩ (by decide) checked_Uz norm_Uz rew_Uz (fun R mb=>sets_Uz R mb _) (by show Option.map _ (stateI (keyT tUz) true (untilI fPz fQz) ⟨[],[]⟩)=_;rw [state_Uz];rfl) check_aUz
theorem aknown_any (W:World):Calls Tryz.prog 8 #[] W fun e w'=>e = .returned (.bool true)∧Chg Nob W w':=by
 go_enter Tryz.func8,Tryz.ntmps8
 go_wp2_with fail
 (with_reducible refine (until_law W).mono ?_)
 rintro e w1 ⟨hc1,g,rfl,hg,hb⟩
 obtain ⟨N,hN,hcN,hbN,hsN⟩:=box_cells w1 #[.string ⟨#[112]⟩,.string ⟨#[113]⟩] 9
 have hof:=of_Uz (hcN.at hb (fun e=>e)) hbN
 have HN:Hid (Chg Nob W N):=Lib.hid (hc1.trans1 hcN)
 clear hc1 hg hb hcN hbN hsN
 go_wp2_with fail
 rw [← hN]
 clear hN
 (with_reducible refine hof.mono ?_)
 clear hof
 rintro e w2 ⟨hc2,ai,ci,as',cs,rfl,hI,hS⟩
 obtain ⟨V,hV,hcV,hbV,hsV⟩:=box_cells w2 #[.slice ai 1 ci,.slice as' 1 cs] 38
 have hIV:=hI.nob hcV
 have hSV:=hS.nob hcV
 have hrc:Calls Tryz.prog 24 #[.agg #[.slice ai 1 ci,.slice as' 1 cs]] V fun e w'=>e = .returned (.int .i64 0)∧Chg Nob V w':=by
  have:=racheck_any (ci:=ci) (cs:=cs) (I:=[[0]]) (S:=aUz.sts) (by decide) (by decide) hIV hSV
  rw [check_aUz] at this
  exact this
 have HV:Hid (Chg Nob W V):=Lib.hid ((HN.out.trans1 hc2).trans1 hcV)
 have HIV:=Lib.hid hIV
 have HSV:=Lib.hid hSV
 have HbV:=Lib.hid hbV
 have HV2:=Lib.hid hV
 obtain ⟨z0,z1,_⟩:=cell_two hbV
 obtain ⟨vb,hvb⟩:∃ vb,vb=w2.heap.size:=⟨_,rfl⟩
 have Hvb:=Lib.hid hvb
 rw [← hvb] at z0 z1 HbV
 clear hc2 hI hS hcV hbV hsV hIV hSV hV hvb
 go_upto_region 2 with fail
 rw [← HV2.out,← Hvb.out]
 go_wp2_with fail
 (with_reducible refine hrc.mono ?_)
 clear hrc z0 z1
 rintro e w3 ⟨rfl,hc3⟩
 obtain ⟨A,hA,hcA,hbA,hsA⟩:=box_cells w3 #[.int .u64 1,.int .u64 1] 53
 obtain ⟨A2,hA2,hcA2,hbA2,hsA2⟩:=box_cells A #[.int .u64 2] 53
 have hacc1:Calls Tryz.prog 12 #[.agg #[.slice ai 1 ci,.slice as' 1 cs],.agg #[.slice (some ⟨w3.heap.size,0,none⟩) 2 2,.slice (some ⟨A.heap.size,0,none⟩) 1 1]] A2 fun e w'=>e = .returned (.tuple #[.bool true,.int .i64 0])∧Chg Nob A2 w':=by
  have:=accepts_any (ci:=ci) (cs:=cs) (cp:=2) (cl:=1) (I:=[[0]]) (S:=aUz.sts) (P:=[1,1]) (L:=[2]) (ap:=some ⟨w3.heap.size,0,none⟩) (al:=some ⟨A.heap.size,0,none⟩) (by decide) (by decide) (HIV.out.nob ((hc3.trans1 hcA).trans1 hcA2)) (HSV.out.nob ((hc3.trans1 hcA).trans1 hcA2)) (by decide) (fun j x h=>by
   have hbA:=hcA2.at hbA (fun e=>e)
   match j,h with
   | 0,h=>cases h;exact ⟨_,rfl,by rw [Go.WideShapes.add_plain];exact cell_row hbA 0 rfl⟩
   | 1,h=>cases h;exact ⟨_,rfl,by rw [Go.WideShapes.add_plain];exact cell_row hbA 1 rfl⟩) (fun j x h=>by
   match j,h with
   | 0,h=>cases h;exact ⟨_,rfl,by rw [Go.WideShapes.add_plain];exact cell_row hbA2 0 rfl⟩) (fun e=>by cases e) (fun e=>by cases e)
  unfold AccPost at this
  rw [acc_1.1] at this
  have e:accCode [[0]] aUz.sts ([1,1]:List Int).length ([2]:List Int).length=0:=acc_1.2
  rw [e] at this
  exact this
 have HcA:Hid (Chg Nob V A2):=Lib.hid ((hc3.trans1 hcA).trans1 hcA2)
 obtain ⟨z0,z1,_⟩:=cell_two (hc3.at HbV.out (fun e=>e))
 have HA:=Lib.hid hA
 have HA2:=Lib.hid hA2
 have HsA:Hid (A.heap.size=w3.heap.size+1):=Lib.hid hsA
 rw [hsA] at hacc1
 clear hc3 hcA hcA2 hbA hbA2 hsA hsA2 hA hA2
 go_wp2_with fail
 rw [← HA.out,← HA2.out]
 (with_reducible refine hacc1.mono ?_)
 clear hacc1 z0 z1
 rintro e w4 ⟨rfl,hc4⟩
 obtain ⟨C,hC,hcC,hbC,hsC⟩:=box_cells w4 #[.int .u64 1] 53
 have hacc2:Calls Tryz.prog 12 #[.agg #[.slice ai 1 ci,.slice as' 1 cs],.agg #[.slice none 0 0,.slice (some ⟨w4.heap.size,0,none⟩) 1 1]] C fun e w'=>e = .returned (.tuple #[.bool false,.int .i64 0])∧Chg Nob C w':=by
  have:=accepts_any (ci:=ci) (cs:=cs) (cp:=0) (cl:=1) (I:=[[0]]) (S:=aUz.sts) (P:=[]) (L:=[1]) (ap:=none) (al:=some ⟨w4.heap.size,0,none⟩) (by decide) (by decide) (HIV.out.nob ((HcA.out.trans1 hc4).trans1 hcC)) (HSV.out.nob ((HcA.out.trans1 hc4).trans1 hcC)) (by decide) (fun j x h=>by simp at h) (fun j x h=>by
   match j,h with
   | 0,h=>cases h;exact ⟨_,rfl,by rw [Go.WideShapes.add_plain];exact cell_row hbC 0 rfl⟩) (fun _=>rfl) (fun e=>by cases e)
  unfold AccPost at this
  rw [acc_2.1] at this
  have e:accCode [[0]] aUz.sts ([]:List Int).length ([1]:List Int).length=0:=acc_2.2
  rw [e] at this
  exact this
 have HcC:Hid (Chg Nob V C):=Lib.hid ((HcA.out.trans1 hc4).trans1 hcC)
 obtain ⟨z0,z1,_⟩:=cell_two ((HcA.out.trans1 hc4).at HbV.out (fun e=>e))
 have HC:=Lib.hid hC
 clear hc4 hcC hbC hsC hC
 go_wp2_with fail
 rw [← HC.out]
 (with_reducible refine hacc2.mono ?_)
 clear hacc2 z0 z1
 rintro e w5 ⟨rfl,hc5⟩
 have hchk:Calls Tryz.prog 23 #[.agg #[.slice ai 1 ci,.slice as' 1 cs]] w5 fun e w'=>e = .returned (.int .i64 0)∧Chg Nob w5 w':=by
  have:=acheck_any (ci:=ci) (cs:=cs) (I:=[[0]]) (S:=aUz.sts) (by decide) (by decide) (HIV.out.nob (HcC.out.trans1 hc5)) (HSV.out.nob (HcC.out.trans1 hc5))
  rw [check_aUz] at this
  exact this
 have Hc5:Hid (Chg Nob V w5):=Lib.hid (HcC.out.trans1 hc5)
 obtain ⟨z0,z1,_⟩:=cell_two (Hc5.out.at HbV.out (fun e=>e))
 clear hc5
 go_wp2_with fail
 (with_reducible refine hchk.mono ?_)
 clear hchk z0 z1
 rintro e w6 ⟨rfl,hc6⟩
 have H6:Hid (Chg Nob W w6):=Lib.hid ((HV.out.trans1 Hc5.out).trans1 hc6)
 clear hc6
 go_wp2_with fail
 go_ret
 exact ⟨rfl,H6.out⟩
end Go.Proofs.YtkgfdgfhpdhhaaaGreat
namespace Go.Proofs.YtkgfdgfhpdhhaaaGreat
open Go.ChangeShapes Go.WideShapes Go.RowKit
theorem Tryz.info4m:(Tryz.prog.info? 4).map (fun i=>(i.zero,i.size,i.bytes))=some (some (.bool false),1,1):=by kernel_rfl
theorem info4_parts:∃ i,Tryz.prog.info? 4=some i∧i.zero=some (.bool false)∧i.size=1∧i.bytes=1:=by
 have h:=Tryz.info4m
 cases hi:Tryz.prog.info? 4 with
 | none=>rw [hi] at h;simp at h
 | some i=>rw [hi] at h;simp at h;exact ⟨i,rfl,h.1,h.2.1,h.2.2⟩
theorem push_bool {w:World} {B:Nat} {sl:Value} {ys:List Bool} (y:Bool) (h:w.ownsRow B 4 1 sl ys.length (ys.map Value.bool)) (hB:B≤w.heap.size) (hn:ys.length≤1000000) :
 ∃ sl' w',(Builtin.append_ #[34,34] 34 #[sl,.slice (some ⟨w.heap.size,0,none⟩) 1 1]).run Tryz.prog (w.alloc (.cells #[.bool y] 4)) = .ok sl' w'∧w'.ownsRow B 4 1 sl' (ys++[y]).length ((ys++[y]).map Value.bool)∧Chg (fun q=>B≤q) w w':=by
 obtain ⟨i,hi,hz,hs,hb⟩:=info4_parts
 have hA:Chg Nob w (w.alloc (.cells #[.bool y] 4)):=(Chg.refl _ _).alloc _
 have hg:=heap_alloc_new w (.cells #[.bool y] 4)
 obtain ⟨g',cap,w',hrun,hrow,hgr,hlies,hg'⟩:=run_append_lies (P:=Tryz.prog) (w.alloc (.cells #[.bool y] 4)) 34 34 B 4 i _ 1 1 Tryz.underlying34 hi hz hs hb rfl (by decide) sl ys.length _ (ownsRow_chg h hA (fun _ _ e=>e)) ⟨w.heap.size,0,none⟩ 1 1 [.bool y] rfl
  (fun j u hj=>by rw [Go.WideShapes.add_plain,Nat.zero_add];exact cell_row hg j (by simpa using hj)) (by intro u hu;simp at hu;subst hu;rfl) (by decide) (by unfold maxLen;omega) (by omega) (by rw [World.size_alloc];omega) _ rfl
 refine ⟨_,w',hrun,by rw [List.length_append,List.map_append];exact hrow,?_⟩
 exact (hA.any.trans1 ((Chg.refl _ _).grown hgr (fun q hq _=>hq))).mono (fun q _ e=>(ownsRow_chg h hA (fun _ _ e=>e)).lt q e |>.1)
end Go.Proofs.YtkgfdgfhpdhhaaaGreat
