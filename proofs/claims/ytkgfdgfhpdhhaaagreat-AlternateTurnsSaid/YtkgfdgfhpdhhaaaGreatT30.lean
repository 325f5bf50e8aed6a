/- Parts of the walks and of the plain theory, the first: ltl's small: what a plain formula is made. Conditions: the formula lies in the world. -/
import Derived.Test.YtkgfdgfhpdhhaaaGreatT26
import Derived.Test.YtkgfdgfhpdhhaaaGreatT29
namespace Go.Proofs.YtkgfdgfhpdhhaaaGreat
open Go.ChangeShapes Go.WideShapes Go.RowKit
open PL (F)
set_option maxRecDepth 100000
set_option maxHeartbeats 16000000
theorem results51 {rb:Nat} {tm:Array Value} {w:World} {x y z:Value} (h2:tm[2]? = some (.pointer (some ⟨rb,0,none⟩))) (hb:w.heap[rb]? = some (.cells #[x,y,z] 24 (0,0))):(results Tryz.f51 tm).run Tryz.prog w = .ok (.agg #[x,y,z]) w:=by
 obtain ⟨c0,c1,c2,_⟩:=cells_three hb
 simp [results,Tryz.results51,go_sem,h2,c0,c1,c2]
def midF:F→F
 | .nx a=> .nx (PL.smallF a)
 | .an a b=> .an (PL.smallF a) (PL.smallF b)
 | .or a b=> .or (PL.smallF a) (PL.smallF b)
 | .un a b=> .un (PL.smallF a) (PL.smallF b)
 | .re a b=> .re (PL.smallF a) (PL.smallF b)
 | t=>t
theorem midF_kids (f:F):(tF (midF f)).kids=(kidsF f).map fun g=>tF (PL.smallF g):=by cases f <;> rfl
theorem midF_kind (f:F):(tF (midF f)).kind=(tF f).kind:=by cases f <;> rfl
theorem midF_name (f:F):(tF (midF f)).name=(tF f).name:=by cases f <;> rfl
theorem small_step {f:F} (ih:∀ g∈kidsF f,∀ (R:Nat→Prop) (w:World) (v:Value),(∀ b,R b→b < w.heap.size)→IsTree R w (tF g) v→Calls Tryz.prog 51 #[v] w (FPost R (PL.smallF g) w))
 {R:Nat→Prop} {v:Value} {w:World} (hR:∀ b,R b→b < w.heap.size) (hv:IsTree R w (tF f) v):Calls Tryz.prog 51 #[v] w (FPost R (PL.smallF f) w):=by
 obtain ⟨ao,cap,rfl⟩:=hv.agg'
 obtain ⟨W,hWe,hcW,hb0,hb1,hsW⟩:=box_two' w (.int .i64 (tF f).kind) (.string ⟨(tF f).name.toArray⟩) (.slice ao (tF f).kids.length cap)
 have hkl:(tF f).kids.length≤2:=by cases f <;> simp [tF,T.kids]
 have hkl2:(tF f).kids.length=(kidsF f).length:=by rw [tF_kids,List.length_map]
 have HR:=Lib.hid hR
 have Hv:=Lib.hid hv
 have HcW:=Lib.hid hcW
 have Hb0:=Lib.hid hb0
 have Hb1:=Lib.hid hb1
 have HsW:=Lib.hid hsW
 have Ih:=Lib.hid ih
 have Hkl2:=Lib.hid hkl2
 obtain ⟨c0,c1,c2,_⟩:=cells_three hb0
 have hrow0:Hid (SmRow R (w.heap.size+2) ((kidsF f).map fun g=>tF (PL.smallF g)) 0 (.slice none 0 0) [] W):=(show SmRow R (w.heap.size+2) _ 0 (.slice none 0 0) [] W from ⟨rfl,⟨rfl,.inl ⟨rfl,rfl⟩⟩,fun i t v _ h=>by simp at h⟩)
 clear hR hv hcW hb0 hb1 hsW ih hkl2
 rw [hWe] at c2
 go_enter Tryz.func51,Tryz.ntmps51
 go_wp2_with fail
 rw [← hWe]
 clear hWe c0 c1 c2
 go_loopw [3,10] (fun sl iv wr=>∃ (j:Nat) (vs:List Value),iv = .int .i64 (j:Int)∧j≤(tF f).kids.length∧Hid (SmRow R (w.heap.size+2) ((kidsF f).map fun g=>tF (PL.smallF g)) j sl vs wr)∧Hid (Chg (fun q=>w.heap.size+2≤q) W wr)) (fun _ iv _=>(tF f).kids.length - (intOf iv).toNat)
 case atStart=>exact ⟨0,_,rfl,Nat.zero_le _,hrow0,Chg.refl _ _⟩
 case round =>
  clear hrow0
  obtain ⟨j,vs,rfl,hj,HO,Hc⟩:=hrel
  have hcw:Hid (Chg Nob w wr):=Lib.hid ((HcW.out.any (S:=fun q=>w.heap.size+2≤q)).trans1 Hc.out |>.mono (fun i hi e=>by omega))
  have hsr:Hid (w.heap.size+2≤wr.heap.size):=(show w.heap.size+2≤wr.heap.size by have:=Hc.out.size;have:=HsW.out;omega)
  by_cases hlt:j < (tF f).kids.length
  ·obtain ⟨x,hx⟩:∃ x,(kidsF f)[j]? = some x:=⟨_,List.getElem?_eq_getElem (by rw [← Hkl2.out];exact hlt)⟩
   obtain ⟨bk,o,sx,cx,hao,p0,p1,p2,htx⟩:=Hv.out.kid' (j:=j) (x:=tF x) (by rw [tF_kids,List.getElem?_map,hx];rfl)
   have p0':=hcw.out.cell' p0 (fun e=>e)
   have p1':=hcw.out.cell' p1 (fun e=>e)
   have p2':=hcw.out.cell' p2 (fun e=>e)
   have hki:(j:Int) < ((tF f).kids.length:Int):=by omega
   have hk0:(0:Int)≤(j:Int):=by omega
   have hA:Chg Nob wr (wr.alloc (.cells #[.int .i64 (tF x).kind,.string ⟨(tF x).name.toArray⟩,.slice sx (tF x).kids.length cx] 24)):=(Chg.refl _ _).alloc _
   have hp:=Ih.out x (List.mem_of_getElem? hx) R _ _ (fun b hb=>by have:=HR.out b hb;have:=hcw.out.size;have:=hA.size;omega) (htx.nob (hcw.out.trans1 hA))
   have HA:=Lib.hid hA
   have Hp:=Lib.hid hp
   have Hx:Hid (((kidsF f).map fun g=>tF (PL.smallF g))[j]? = some (tF (PL.smallF x))):=(show _=_ by rw [List.getElem?_map,hx];rfl)
   obtain ⟨ao3,cc3,hsl⟩:=ownsRow_shape HO.out.row
   subst hsl
   clear p0 p1 p2 htx hx hA hp
   subst hao
   go_wp2_with fail
   (with_reducible refine Hp.out.mono ?_)
   rintro e w4 ⟨hc4,v4,rfl,ht4⟩
   obtain ⟨a4,k4,e4⟩:=ht4.agg'
   subst e4
   have hrow5:=ownsRow_chg (ownsRow_chg HO.out.row (HA.out.trans1 hc4) (fun _ _ e=>e)) ((Chg.refl Nob w4).alloc (.cells #[.int .i64 (tF (PL.smallF x)).kind,.string ⟨(tF (PL.smallF x)).name.toArray⟩,.slice a4 (tF (PL.smallF x)).kids.length k4] 24)) (fun _ _ e=>e)
   obtain ⟨g',capg,w6,hrun,hrow6,hgr,hlies,hg6⟩:=append37 (ys:=[.int .i64 (tF (PL.smallF x)).kind,.string ⟨(tF (PL.smallF x)).name.toArray⟩,.slice a4 (tF (PL.smallF x)).kids.length k4]) hrow5 (by have h1:=hsr.out;have h2:=HA.out.size;have h3:=hc4.size;rw [World.size_alloc];omega) (by omega) rfl (by intro u hu;simp at hu;rcases hu with rfl | rfl | rfl <;> rfl) (heap_alloc_new w4 _)
   obtain ⟨hO6,hc6⟩:=HO.out.next (fun b hb=>by have:=HR.out b hb;omega) hsr.out Hx.out HA.out hc4 ht4 rfl hrow6 hgr hlies
   have HO6:=Lib.hid hO6
   have Hc6:Hid (Chg (fun q=>w.heap.size+2≤q) W w6):=Lib.hid (Hc.out.trans1 hc6)
   have Hrun:=Lib.hid hrun
   clear hrow5 hrow6 hgr hlies hg6 hO6 hc6 hrun hc4 ht4 p0' p1' p2'
   go_wp2_with (refine wpList_append_known rfl _ _ 22 22 rfl _ _ rfl rfl _ w6 Hrun.out ?_)
   go_roundw
   case rel=>exact ⟨j+1,_,by go_num,by omega,HO6,Hc6⟩
   case measure=>simp [intOf];omega
  ·obtain rfl:j=(tF f).kids.length:=by omega
   have hmk:(tF (midF f)).kids.length=(tF f).kids.length:=by rw [midF_kids,List.length_map];exact Hkl2.out.symm
   obtain ⟨ao2,cap2,hsl,hkids⟩:=kids_of_row (kids:=(tF (midF f)).kids) HO.out.row HO.out.len hmk (R:=NewIn R W wr) (fun i t v h1 h2=>IsTree.mono (fun _ _ _ h=>h) (fun q hq=>by rcases hq.1 with e | e;exact .inl e;exact .inr ⟨by have:=HsW.out;omega,e.2⟩) t v (HO.out.trees i t v (by rw [← midF_kids];exact h1) h2)) (fun g hg=>by have:=HO.out.row.lt g hg;exact .inr ⟨by have:=HsW.out;omega,this.2⟩)
   have hT:=IsTree.of_parts (t:=tF (midF f)) (cap:=cap2) (by rw [hmk];omega) hkids
   rw [midF_kind,midF_name,hmk] at hT
   have HT:=Lib.hid hT
   have hbv:=Hc.out.at Hb0.out (fun e=>by omega)
   have hbr:=Hc.out.at Hb1.out (fun e=>by omega)
   have hck:=IsKids.mono (R':=NewIn R W wr) (fun _ _ _ h=>h) (fun _ h=>h) _ _ _ hkids
   have Hkids:=Lib.hid hck
   subst hsl
   clear hmk hkids hT hck
   obtain ⟨v0,v1,v2,f0,f1,f2⟩:=cells_three hbv
   have HbV:Hid ((wr.setCell ⟨w.heap.size,2,none⟩ (.slice ao2 (tF f).kids.length cap2)).heap[w.heap.size]? = some (.cells #[.int .i64 (tF f).kind,.string ⟨(tF f).name.toArray⟩,.slice ao2 (tF f).kids.length cap2] 24 (0,0))):=(show _=_ by simp [World.setCell,Array.getElem?_modify,hbv])
   have hkS:Chg (At1 w.heap.size) wr (wr.setCell ⟨w.heap.size,2,none⟩ (.slice ao2 (tF f).kids.length cap2)):=(Chg.refl (At1 w.heap.size) _).setCell (p:=⟨w.heap.size,2,none⟩) (fun _=>rfl) _
   have HbR:=Lib.hid (hkS.at hbr (fun e=>by have e:w.heap.size+1=w.heap.size:=e;omega))
   have HcS:Hid (Chg Nob w (wr.setCell ⟨w.heap.size,2,none⟩ (.slice ao2 (tF f).kids.length cap2))):=(show Chg Nob w _ from (hcw.out.any (S:=At1 w.heap.size)).trans1 hkS |>.mono (fun i hi e=>by have e:i=w.heap.size:=e;omega))
   have hnot:∀ b,NewIn R W wr b→¬ At1 w.heap.size b:=fun b hb e=>by
    have e:b=w.heap.size:=e
    have:=HsW.out
    rcases hb with hb | hb
    ·have:=HR.out b hb;omega
    ·omega
   have HTS:=Lib.hid (IsTree.chg HT.out hkS hnot)
   have HKS:Hid (IsKids (NewIn R W wr) (wr.setCell ⟨w.heap.size,2,none⟩ (.slice ao2 (tF f).kids.length cap2)) ao2 0 (tF (midF f)).kids):=(show IsKids _ _ _ _ _ from IsKids.mono (fun a v hb h=>hkS.cell' h (hnot _ hb)) (fun _ h=>h) _ _ _ Hkids.out)
   have HsS:Hid ((wr.setCell ⟨w.heap.size,2,none⟩ (.slice ao2 (tF f).kids.length cap2)).heap.size=wr.heap.size):=(show _=_ by simp [World.setCell])
   have hszz:Hid (w.heap.size+2≤wr.heap.size):=hsr
   clear hbv hbr hkS hnot HT Hkids Hc HO hcw hsr
   go_upto_region 8 with fail
   generalize (wr.setCell ⟨w.heap.size,2,none⟩ (.slice ao2 (tF f).kids.length cap2))=X at *
   clear f0 f1 f2 v0 v1 v2
   have hXl:Hid (∀ b,NewIn R W wr b→b < X.heap.size):=(show ∀ b,NewIn R W wr b→b < X.heap.size from fun b hb=>by
    have h1:=HsW.out
    have h2:=hszz.out
    have h3:=HsS.out
    rcases hb with hb | hb
    ·have:=HR.out b hb;omega
    ·omega)
   obtain ⟨v0,v1,v2,_⟩:=cells_three HbV.out
   cases f with
   | tt =>
     have h8:((tF (.tt)).kind==8)=false:=rfl
     have h9:((tF (.tt)).kind==9)=false:=rfl
     have h5:((tF (.tt)).kind==5)=false:=rfl
     have h12:((tF (.tt)).kind==12)=false:=rfl
     have h13:((tF (.tt)).kind==13)=false:=rfl
     obtain ⟨r0,r1,r2,f0,f1,f2⟩:=cells_three HbR.out
     have Hfin:Hid (Chg Nob w _):=((HcS.out).any (S:=At1 (w.heap.size+1))).trans1 (chg_three X (w.heap.size+1) (.int .i64 (tF (.tt)).kind) (.string ⟨(tF (.tt)).name.toArray⟩) (.slice ao2 (tF (.tt)).kids.length cap2)) |>.mono (fun i hi e=>by have e:i=w.heap.size+1:=e;omega)
     have HT9:Hid (IsTree _ _ _ _):=fin_store (wc:=W) (u0:=(.int .i64 (tF (.tt)).kind)) (u1:=(.string ⟨(tF (.tt)).name.toArray⟩)) (u2:=(.slice ao2 (tF (.tt)).kids.length cap2)) HR.out (by have:=HsW.out;omega) (IsTree.mono (fun _ _ _ h=>h) (fun b hb=>by rcases hb with e | e;exact .inl e;exact .inr ⟨e.1,by have:=HsS.out;omega⟩) _ _ HTS.out)
     have HR3:=Lib.hid (block_three_all (HbR.out) (.int .i64 (tF (.tt)).kind) (.string ⟨(tF (.tt)).name.toArray⟩) (.slice ao2 (tF (.tt)).kids.length cap2))
     go_wp2_with fail
     refine bodyPost_ret (results51 rfl HR3.out) rfl ⟨Hfin.out,_,rfl,?_⟩
     exact HT9.out
   | ff =>
     have h8:((tF (.ff)).kind==8)=false:=rfl
     have h9:((tF (.ff)).kind==9)=false:=rfl
     have h5:((tF (.ff)).kind==5)=false:=rfl
     have h12:((tF (.ff)).kind==12)=false:=rfl
     have h13:((tF (.ff)).kind==13)=false:=rfl
     obtain ⟨r0,r1,r2,f0,f1,f2⟩:=cells_three HbR.out
     have Hfin:Hid (Chg Nob w _):=((HcS.out).any (S:=At1 (w.heap.size+1))).trans1 (chg_three X (w.heap.size+1) (.int .i64 (tF (.ff)).kind) (.string ⟨(tF (.ff)).name.toArray⟩) (.slice ao2 (tF (.ff)).kids.length cap2)) |>.mono (fun i hi e=>by have e:i=w.heap.size+1:=e;omega)
     have HT9:Hid (IsTree _ _ _ _):=fin_store (wc:=W) (u0:=(.int .i64 (tF (.ff)).kind)) (u1:=(.string ⟨(tF (.ff)).name.toArray⟩)) (u2:=(.slice ao2 (tF (.ff)).kids.length cap2)) HR.out (by have:=HsW.out;omega) (IsTree.mono (fun _ _ _ h=>h) (fun b hb=>by rcases hb with e | e;exact .inl e;exact .inr ⟨e.1,by have:=HsS.out;omega⟩) _ _ HTS.out)
     have HR3:=Lib.hid (block_three_all (HbR.out) (.int .i64 (tF (.ff)).kind) (.string ⟨(tF (.ff)).name.toArray⟩) (.slice ao2 (tF (.ff)).kids.length cap2))
     go_wp2_with fail
     refine bodyPost_ret (results51 rfl HR3.out) rfl ⟨Hfin.out,_,rfl,?_⟩
     exact HT9.out
   | pr n =>
     have h8:((tF (.pr n)).kind==8)=false:=rfl
     have h9:((tF (.pr n)).kind==9)=false:=rfl
     have h5:((tF (.pr n)).kind==5)=false:=rfl
     have h12:((tF (.pr n)).kind==12)=false:=rfl
     have h13:((tF (.pr n)).kind==13)=false:=rfl
     obtain ⟨r0,r1,r2,f0,f1,f2⟩:=cells_three HbR.out
     have Hfin:Hid (Chg Nob w _):=((HcS.out).any (S:=At1 (w.heap.size+1))).trans1 (chg_three X (w.heap.size+1) (.int .i64 (tF (.pr n)).kind) (.string ⟨(tF (.pr n)).name.toArray⟩) (.slice ao2 (tF (.pr n)).kids.length cap2)) |>.mono (fun i hi e=>by have e:i=w.heap.size+1:=e;omega)
     have HT9:Hid (IsTree _ _ _ _):=fin_store (wc:=W) (u0:=(.int .i64 (tF (.pr n)).kind)) (u1:=(.string ⟨(tF (.pr n)).name.toArray⟩)) (u2:=(.slice ao2 (tF (.pr n)).kids.length cap2)) HR.out (by have:=HsW.out;omega) (IsTree.mono (fun _ _ _ h=>h) (fun b hb=>by rcases hb with e | e;exact .inl e;exact .inr ⟨e.1,by have:=HsS.out;omega⟩) _ _ HTS.out)
     have HR3:=Lib.hid (block_three_all (HbR.out) (.int .i64 (tF (.pr n)).kind) (.string ⟨(tF (.pr n)).name.toArray⟩) (.slice ao2 (tF (.pr n)).kids.length cap2))
     go_wp2_with fail
     refine bodyPost_ret (results51 rfl HR3.out) rfl ⟨Hfin.out,_,rfl,?_⟩
     exact HT9.out
   | np n =>
     have h8:((tF (.np n)).kind==8)=false:=rfl
     have h9:((tF (.np n)).kind==9)=false:=rfl
     have h5:((tF (.np n)).kind==5)=false:=rfl
     have h12:((tF (.np n)).kind==12)=false:=rfl
     have h13:((tF (.np n)).kind==13)=false:=rfl
     obtain ⟨r0,r1,r2,f0,f1,f2⟩:=cells_three HbR.out
     have Hfin:Hid (Chg Nob w _):=((HcS.out).any (S:=At1 (w.heap.size+1))).trans1 (chg_three X (w.heap.size+1) (.int .i64 (tF (.np n)).kind) (.string ⟨(tF (.np n)).name.toArray⟩) (.slice ao2 (tF (.np n)).kids.length cap2)) |>.mono (fun i hi e=>by have e:i=w.heap.size+1:=e;omega)
     have HT9:Hid (IsTree _ _ _ _):=fin_store (wc:=W) (u0:=(.int .i64 (tF (.np n)).kind)) (u1:=(.string ⟨(tF (.np n)).name.toArray⟩)) (u2:=(.slice ao2 (tF (.np n)).kids.length cap2)) HR.out (by have:=HsW.out;omega) (IsTree.mono (fun _ _ _ h=>h) (fun b hb=>by rcases hb with e | e;exact .inl e;exact .inr ⟨e.1,by have:=HsS.out;omega⟩) _ _ HTS.out)
     have HR3:=Lib.hid (block_three_all (HbR.out) (.int .i64 (tF (.np n)).kind) (.string ⟨(tF (.np n)).name.toArray⟩) (.slice ao2 (tF (.np n)).kids.length cap2))
     go_wp2_with fail
     refine bodyPost_ret (results51 rfl HR3.out) rfl ⟨Hfin.out,_,rfl,?_⟩
     exact HT9.out
   | an a b =>
     have h8:((tF (.an a b)).kind==8)=true:=rfl
     have h9:((tF (.an a b)).kind==9)=false:=rfl
     have h5:((tF (.an a b)).kind==5)=false:=rfl
     have h12:((tF (.an a b)).kind==12)=false:=rfl
     have h13:((tF (.an a b)).kind==13)=false:=rfl
     have hp:=joined_any true (PL.smallF a) (PL.smallF b) (NewIn R W wr) X _ hXl.out (show IsTree (NewIn R W wr) X (.node 8 [] [tF (PL.smallF a),tF (PL.smallF b)]) (.agg #[(.int .i64 (tF (.an a b)).kind),(.string ⟨(tF (.an a b)).name.toArray⟩),(.slice ao2 (tF (.an a b)).kids.length cap2)]) from HTS.out)
     have Hp:=Lib.hid hp
     clear hp
     go_wp2_with fail
     (with_reducible refine Hp.out.mono ?_)
     rintro e w5 ⟨hc5,v5,rfl,ht5⟩
     obtain ⟨a5,k5,e5⟩:=ht5.agg'
     subst e5
     have Hc5:=Lib.hid hc5
     have HT5:Hid (IsTree (NewIn R W w5) w5 (tF (PL.joinedF true (PL.smallF a) (PL.smallF b))) _):=Lib.hid (IsTree.mono (fun _ _ _ h=>h) (fun b hb=>by have h1:=HsW.out;have h2:=hszz.out;have h3:=HsS.out;have h4:=Hc5.out.size;rcases hb with (e | e) | e;exact .inl e;exact .inr ⟨e.1,by omega⟩;exact .inr ⟨by omega,e.2⟩) _ _ ht5)
     have HbR5:=Lib.hid (Hc5.out.at HbR.out (fun e=>e))
     clear hc5 ht5 v0 v1 v2
     obtain ⟨r0,r1,r2,f0,f1,f2⟩:=cells_three HbR5.out
     have Hfin:Hid (Chg Nob w _):=((HcS.out.trans1 Hc5.out).any (S:=At1 (w.heap.size+1))).trans1 (chg_three w5 (w.heap.size+1) (.int .i64 (tF (PL.joinedF true (PL.smallF a) (PL.smallF b))).kind) (.string ⟨(tF (PL.joinedF true (PL.smallF a) (PL.smallF b))).name.toArray⟩) (.slice a5 (tF (PL.joinedF true (PL.smallF a) (PL.smallF b))).kids.length k5)) |>.mono (fun i hi e=>by have e:i=w.heap.size+1:=e;omega)
     have HT9:Hid (IsTree _ _ _ _):=fin_store (wc:=W) (u0:=(.int .i64 (tF (PL.joinedF true (PL.smallF a) (PL.smallF b))).kind)) (u1:=(.string ⟨(tF (PL.joinedF true (PL.smallF a) (PL.smallF b))).name.toArray⟩)) (u2:=(.slice a5 (tF (PL.joinedF true (PL.smallF a) (PL.smallF b))).kids.length k5)) HR.out (by have:=HsW.out;omega) (HT5.out)
     have HR3:=Lib.hid (block_three_all (HbR5.out) (.int .i64 (tF (PL.joinedF true (PL.smallF a) (PL.smallF b))).kind) (.string ⟨(tF (PL.joinedF true (PL.smallF a) (PL.smallF b))).name.toArray⟩) (.slice a5 (tF (PL.joinedF true (PL.smallF a) (PL.smallF b))).kids.length k5))
     go_wp2_with fail
     refine bodyPost_ret (results51 rfl HR3.out) rfl ⟨Hfin.out,_,rfl,?_⟩
     exact HT9.out
   | or a b =>
     have h8:((tF (.or a b)).kind==8)=false:=rfl
     have h9:((tF (.or a b)).kind==9)=true:=rfl
     have h5:((tF (.or a b)).kind==5)=false:=rfl
     have h12:((tF (.or a b)).kind==12)=false:=rfl
     have h13:((tF (.or a b)).kind==13)=false:=rfl
     have hp:=joined_any false (PL.smallF a) (PL.smallF b) (NewIn R W wr) X _ hXl.out (show IsTree (NewIn R W wr) X (.node 9 [] [tF (PL.smallF a),tF (PL.smallF b)]) (.agg #[(.int .i64 (tF (.or a b)).kind),(.string ⟨(tF (.or a b)).name.toArray⟩),(.slice ao2 (tF (.or a b)).kids.length cap2)]) from HTS.out)
     have Hp:=Lib.hid hp
     clear hp
     go_wp2_with fail
     (with_reducible refine Hp.out.mono ?_)
     rintro e w5 ⟨hc5,v5,rfl,ht5⟩
     obtain ⟨a5,k5,e5⟩:=ht5.agg'
     subst e5
     have Hc5:=Lib.hid hc5
     have HT5:Hid (IsTree (NewIn R W w5) w5 (tF (PL.joinedF false (PL.smallF a) (PL.smallF b))) _):=Lib.hid (IsTree.mono (fun _ _ _ h=>h) (fun b hb=>by have h1:=HsW.out;have h2:=hszz.out;have h3:=HsS.out;have h4:=Hc5.out.size;rcases hb with (e | e) | e;exact .inl e;exact .inr ⟨e.1,by omega⟩;exact .inr ⟨by omega,e.2⟩) _ _ ht5)
     have HbR5:=Lib.hid (Hc5.out.at HbR.out (fun e=>e))
     clear hc5 ht5 v0 v1 v2
     obtain ⟨r0,r1,r2,f0,f1,f2⟩:=cells_three HbR5.out
     have Hfin:Hid (Chg Nob w _):=((HcS.out.trans1 Hc5.out).any (S:=At1 (w.heap.size+1))).trans1 (chg_three w5 (w.heap.size+1) (.int .i64 (tF (PL.joinedF false (PL.smallF a) (PL.smallF b))).kind) (.string ⟨(tF (PL.joinedF false (PL.smallF a) (PL.smallF b))).name.toArray⟩) (.slice a5 (tF (PL.joinedF false (PL.smallF a) (PL.smallF b))).kids.length k5)) |>.mono (fun i hi e=>by have e:i=w.heap.size+1:=e;omega)
     have HT9:Hid (IsTree _ _ _ _):=fin_store (wc:=W) (u0:=(.int .i64 (tF (PL.joinedF false (PL.smallF a) (PL.smallF b))).kind)) (u1:=(.string ⟨(tF (PL.joinedF false (PL.smallF a) (PL.smallF b))).name.toArray⟩)) (u2:=(.slice a5 (tF (PL.joinedF false (PL.smallF a) (PL.smallF b))).kids.length k5)) HR.out (by have:=HsW.out;omega) (HT5.out)
     have HR3:=Lib.hid (block_three_all (HbR5.out) (.int .i64 (tF (PL.joinedF false (PL.smallF a) (PL.smallF b))).kind) (.string ⟨(tF (PL.joinedF false (PL.smallF a) (PL.smallF b))).name.toArray⟩) (.slice a5 (tF (PL.joinedF false (PL.smallF a) (PL.smallF b))).kids.length k5))
     go_wp2_with fail
     refine bodyPost_ret (results51 rfl HR3.out) rfl ⟨Hfin.out,_,rfl,?_⟩
     exact HT9.out
   | un a b =>
     have h8:((tF (.un a b)).kind==8)=false:=rfl
     have h9:((tF (.un a b)).kind==9)=false:=rfl
     have h5:((tF (.un a b)).kind==5)=false:=rfl
     have h12:((tF (.un a b)).kind==12)=true:=rfl
     have h13:((tF (.un a b)).kind==13)=false:=rfl
     have hp:=untilP_any (PL.smallF a) (PL.smallF b) (NewIn R W wr) X _ hXl.out (show IsTree (NewIn R W wr) X (.node 12 [] [tF (PL.smallF a),tF (PL.smallF b)]) (.agg #[(.int .i64 (tF (.un a b)).kind),(.string ⟨(tF (.un a b)).name.toArray⟩),(.slice ao2 (tF (.un a b)).kids.length cap2)]) from HTS.out)
     have Hp:=Lib.hid hp
     clear hp
     go_wp2_with fail
     (with_reducible refine Hp.out.mono ?_)
     rintro e w5 ⟨hc5,v5,rfl,ht5⟩
     obtain ⟨a5,k5,e5⟩:=ht5.agg'
     subst e5
     have Hc5:=Lib.hid hc5
     have HT5:Hid (IsTree (NewIn R W w5) w5 (tF (PL.untilF (PL.smallF a) (PL.smallF b))) _):=Lib.hid (IsTree.mono (fun _ _ _ h=>h) (fun b hb=>by have h1:=HsW.out;have h2:=hszz.out;have h3:=HsS.out;have h4:=Hc5.out.size;rcases hb with (e | e) | e;exact .inl e;exact .inr ⟨e.1,by omega⟩;exact .inr ⟨by omega,e.2⟩) _ _ ht5)
     have HbR5:=Lib.hid (Hc5.out.at HbR.out (fun e=>e))
     clear hc5 ht5 v0 v1 v2
     obtain ⟨r0,r1,r2,f0,f1,f2⟩:=cells_three HbR5.out
     have Hfin:Hid (Chg Nob w _):=((HcS.out.trans1 Hc5.out).any (S:=At1 (w.heap.size+1))).trans1 (chg_three w5 (w.heap.size+1) (.int .i64 (tF (PL.untilF (PL.smallF a) (PL.smallF b))).kind) (.string ⟨(tF (PL.untilF (PL.smallF a) (PL.smallF b))).name.toArray⟩) (.slice a5 (tF (PL.untilF (PL.smallF a) (PL.smallF b))).kids.length k5)) |>.mono (fun i hi e=>by have e:i=w.heap.size+1:=e;omega)
     have HT9:Hid (IsTree _ _ _ _):=fin_store (wc:=W) (u0:=(.int .i64 (tF (PL.untilF (PL.smallF a) (PL.smallF b))).kind)) (u1:=(.string ⟨(tF (PL.untilF (PL.smallF a) (PL.smallF b))).name.toArray⟩)) (u2:=(.slice a5 (tF (PL.untilF (PL.smallF a) (PL.smallF b))).kids.length k5)) HR.out (by have:=HsW.out;omega) (HT5.out)
     have HR3:=Lib.hid (block_three_all (HbR5.out) (.int .i64 (tF (PL.untilF (PL.smallF a) (PL.smallF b))).kind) (.string ⟨(tF (PL.untilF (PL.smallF a) (PL.smallF b))).name.toArray⟩) (.slice a5 (tF (PL.untilF (PL.smallF a) (PL.smallF b))).kids.length k5))
     go_wp2_with fail
     refine bodyPost_ret (results51 rfl HR3.out) rfl ⟨Hfin.out,_,rfl,?_⟩
     exact HT9.out
   | re a b =>
     have h8:((tF (.re a b)).kind==8)=false:=rfl
     have h9:((tF (.re a b)).kind==9)=false:=rfl
     have h5:((tF (.re a b)).kind==5)=false:=rfl
     have h12:((tF (.re a b)).kind==12)=false:=rfl
     have h13:((tF (.re a b)).kind==13)=true:=rfl
     have hp:=releaseP_any (PL.smallF a) (PL.smallF b) (NewIn R W wr) X _ hXl.out (show IsTree (NewIn R W wr) X (.node 13 [] [tF (PL.smallF a),tF (PL.smallF b)]) (.agg #[(.int .i64 (tF (.re a b)).kind),(.string ⟨(tF (.re a b)).name.toArray⟩),(.slice ao2 (tF (.re a b)).kids.length cap2)]) from HTS.out)
     have Hp:=Lib.hid hp
     clear hp
     go_wp2_with fail
     (with_reducible refine Hp.out.mono ?_)
     rintro e w5 ⟨hc5,v5,rfl,ht5⟩
     obtain ⟨a5,k5,e5⟩:=ht5.agg'
     subst e5
     have Hc5:=Lib.hid hc5
     have HT5:Hid (IsTree (NewIn R W w5) w5 (tF (PL.releaseF (PL.smallF a) (PL.smallF b))) _):=Lib.hid (IsTree.mono (fun _ _ _ h=>h) (fun b hb=>by have h1:=HsW.out;have h2:=hszz.out;have h3:=HsS.out;have h4:=Hc5.out.size;rcases hb with (e | e) | e;exact .inl e;exact .inr ⟨e.1,by omega⟩;exact .inr ⟨by omega,e.2⟩) _ _ ht5)
     have HbR5:=Lib.hid (Hc5.out.at HbR.out (fun e=>e))
     clear hc5 ht5 v0 v1 v2
     obtain ⟨r0,r1,r2,f0,f1,f2⟩:=cells_three HbR5.out
     have Hfin:Hid (Chg Nob w _):=((HcS.out.trans1 Hc5.out).any (S:=At1 (w.heap.size+1))).trans1 (chg_three w5 (w.heap.size+1) (.int .i64 (tF (PL.releaseF (PL.smallF a) (PL.smallF b))).kind) (.string ⟨(tF (PL.releaseF (PL.smallF a) (PL.smallF b))).name.toArray⟩) (.slice a5 (tF (PL.releaseF (PL.smallF a) (PL.smallF b))).kids.length k5)) |>.mono (fun i hi e=>by have e:i=w.heap.size+1:=e;omega)
     have HT9:Hid (IsTree _ _ _ _):=fin_store (wc:=W) (u0:=(.int .i64 (tF (PL.releaseF (PL.smallF a) (PL.smallF b))).kind)) (u1:=(.string ⟨(tF (PL.releaseF (PL.smallF a) (PL.smallF b))).name.toArray⟩)) (u2:=(.slice a5 (tF (PL.releaseF (PL.smallF a) (PL.smallF b))).kids.length k5)) HR.out (by have:=HsW.out;omega) (HT5.out)
     have HR3:=Lib.hid (block_three_all (HbR5.out) (.int .i64 (tF (PL.releaseF (PL.smallF a) (PL.smallF b))).kind) (.string ⟨(tF (PL.releaseF (PL.smallF a) (PL.smallF b))).name.toArray⟩) (.slice a5 (tF (PL.releaseF (PL.smallF a) (PL.smallF b))).kids.length k5))
     go_wp2_with fail
     refine bodyPost_ret (results51 rfl HR3.out) rfl ⟨Hfin.out,_,rfl,?_⟩
     exact HT9.out
   | nx a =>
     have h8:((tF (.nx a)).kind==8)=false:=rfl
     have h9:((tF (.nx a)).kind==9)=false:=rfl
     have h5:((tF (.nx a)).kind==5)=true:=rfl
     have h12:((tF (.nx a)).kind==12)=false:=rfl
     have h13:((tF (.nx a)).kind==13)=false:=rfl
     obtain ⟨bk,o,sx,cx,hao,q0,q1,q2,htx⟩:=HTS.out.kid' (j:=0) (x:=tF (PL.smallF a)) rfl
     rw [Nat.zero_mul,Nat.add_zero] at q0 q1 q2
     have hlen0:0 < (tF (.nx a)).kids.length:=Nat.zero_lt_one
     subst hao
     have hX1:Chg Nob X (X.alloc (.cells #[.int .i64 (tF (PL.smallF a)).kind,.string ⟨(tF (PL.smallF a)).name.toArray⟩,.slice sx (tF (PL.smallF a)).kids.length cx] 24)):=(Chg.refl _ _).alloc _
     have hb6:=heap_alloc_new X (.cells #[.int .i64 (tF (PL.smallF a)).kind,.string ⟨(tF (PL.smallF a)).name.toArray⟩,.slice sx (tF (PL.smallF a)).kids.length cx] 24)
     have HX1:=Lib.hid hX1
     have Hb6:=Lib.hid hb6
     have Htx:=Lib.hid htx
     clear htx hX1 hb6
     go_upto_region 14 with fail
     generalize X.alloc (.cells #[.int .i64 (tF (PL.smallF a)).kind,.string ⟨(tF (PL.smallF a)).name.toArray⟩,.slice sx (tF (PL.smallF a)).kids.length cx] 24)=Y at *
     clear q0 q1 q2 v0 v1 v2
     have HS:Hid (∀ w',Chg Nob Y w'→w'.cell? ⟨X.heap.size,0,none⟩=some (.int .i64 (tF (PL.smallF a)).kind)∧w'.cell? ⟨X.heap.size,1,none⟩=some (.string ⟨(tF (PL.smallF a)).name.toArray⟩)∧w'.cell? ⟨X.heap.size,2,none⟩=some (.slice sx (tF (PL.smallF a)).kids.length cx)∧TI w' (tF (PL.smallF a)) (.agg #[.int .i64 (tF (PL.smallF a)).kind,.string ⟨(tF (PL.smallF a)).name.toArray⟩,.slice sx (tF (PL.smallF a)).kids.length cx])) :=
      (show ∀ w',Chg Nob Y w'→_ from fun w' h=>by
       obtain ⟨a0,a1,a2,_⟩:=cells_three (h.at Hb6.out (fun e=>e))
       exact ⟨a0,a1,a2,(Htx.out.ti hXl.out).nob (HX1.out.trans1 h)⟩)
     have hcur:=Chg.refl Nob Y
     obtain ⟨x0,x1,x2,ta⟩:=HS.out _ hcur
     go_cut [39] from 34 to 38 (fun t wx=>t = .bool (((tF (PL.smallF a)).kind==1) || ((tF (PL.smallF a)).kind==2))∧Hid (Chg Nob Y wx))
     case first =>
      cases g1:((tF (PL.smallF a)).kind==1) with
      | true =>
        go_wp2_with (first | (go_at_call 86;(with_reducible refine (truth_any ta).mono ?_);rintro e w' ⟨rfl,hc'⟩;replace hcur:=hcur.trans1 hc';clear hc' x0 x1 x2 ta;obtain ⟨x0,x1,x2,ta⟩:=HS.out _ hcur) | (go_at_call 87;(with_reducible refine (falsity_any ta).mono ?_);rintro e w' ⟨rfl,hc'⟩;replace hcur:=hcur.trans1 hc';clear hc' x0 x1 x2 ta;obtain ⟨x0,x1,x2,ta⟩:=HS.out _ hcur))
        go_meet
        case rel=>exact ⟨congrArg Value.bool (by rw [g1];rfl),hcur⟩
      | false =>
        go_wp2_with (first | (go_at_call 86;(with_reducible refine (truth_any ta).mono ?_);rintro e w' ⟨rfl,hc'⟩;replace hcur:=hcur.trans1 hc';clear hc' x0 x1 x2 ta;obtain ⟨x0,x1,x2,ta⟩:=HS.out _ hcur) | (go_at_call 87;(with_reducible refine (falsity_any ta).mono ?_);rintro e w' ⟨rfl,hc'⟩;replace hcur:=hcur.trans1 hc';clear hc' x0 x1 x2 ta;obtain ⟨x0,x1,x2,ta⟩:=HS.out _ hcur))
        go_meet
        case rel=>exact ⟨congrArg Value.bool (by rw [g1];rfl),hcur⟩
     case rest =>
     obtain ⟨rfl,hcw⟩:=hcut
     replace hcur:=hcw.out
     clear hcw x0 x1 x2 ta
     obtain ⟨x0,x1,x2,ta⟩:=HS.out _ hcur
     clear ta
     have hbR6:=hcur.at (HX1.out.at HbR.out (fun e=>e)) (fun e=>e)
     have hcY:=(HcS.out.trans1 HX1.out).trans1 hcur
     have hzY:=HX1.out.size
     have hzC:=hcur.size
     cases hs:(((tF (PL.smallF a)).kind==1) || ((tF (PL.smallF a)).kind==2)) with
     | true =>
       have hE:PL.smallF (.nx a)=PL.smallF a:=by
        rw [PL.smallF]
        refine if_pos ?_
        rw [Bool.or_eq_true,beq_iff_eq,beq_iff_eq,kF_tt,kF_ff] at hs
        exact hs
       have HTy:Hid (IsTree (NewIn R W wc) wc (tF (PL.smallF a)) _):=Lib.hid (IsTree.mono (fun _ _ _ h=>h) (fun b hb=>by have h3:=HsS.out;rcases hb with e | e;exact .inl e;exact .inr ⟨e.1,by omega⟩) _ _ (Htx.out.nob (HX1.out.trans1 hcur)))
       obtain ⟨r0,r1,r2,f0,f1,f2⟩:=cells_three hbR6
       have Hfin:Hid (Chg Nob w _):=((hcY).any (S:=At1 (w.heap.size+1))).trans1 (chg_three wc (w.heap.size+1) (.int .i64 (tF (PL.smallF a)).kind) (.string ⟨(tF (PL.smallF a)).name.toArray⟩) (.slice sx (tF (PL.smallF a)).kids.length cx)) |>.mono (fun i hi e=>by have e:i=w.heap.size+1:=e;omega)
       have HT9:Hid (IsTree _ _ _ _):=fin_store (wc:=W) (u0:=(.int .i64 (tF (PL.smallF a)).kind)) (u1:=(.string ⟨(tF (PL.smallF a)).name.toArray⟩)) (u2:=(.slice sx (tF (PL.smallF a)).kids.length cx)) HR.out (by have:=HsW.out;omega) (HTy.out)
       have HR3:=Lib.hid (block_three_all (hbR6) (.int .i64 (tF (PL.smallF a)).kind) (.string ⟨(tF (PL.smallF a)).name.toArray⟩) (.slice sx (tF (PL.smallF a)).kids.length cx))
       go_wp2_with fail
       refine bodyPost_ret (results51 rfl HR3.out) rfl ⟨Hfin.out,_,rfl,?_⟩
       rw [hE];exact HT9.out
     | false =>
       have hE:PL.smallF (.nx a) = .nx (PL.smallF a):=by
        rw [PL.smallF]
        refine if_neg (fun e=>?_)
        have hq:(((tF (PL.smallF a)).kind==1) || ((tF (PL.smallF a)).kind==2))=true:=by
         rw [Bool.or_eq_true,beq_iff_eq,beq_iff_eq,kF_tt,kF_ff];exact e
        rw [hs] at hq
        cases hq
       have HTy:Hid (IsTree (NewIn R W wc) wc (tF (.nx (PL.smallF a))) _):=Lib.hid (IsTree.mono (fun _ _ _ h=>h) (fun b hb=>by have h3:=HsS.out;rcases hb with e | e;exact .inl e;exact .inr ⟨e.1,by omega⟩) _ _ (HTS.out.nob (HX1.out.trans1 hcur)))
       obtain ⟨v0,v1,v2,_⟩:=cells_three (hcur.at (HX1.out.at HbV.out (fun e=>e)) (fun e=>e))
       obtain ⟨r0,r1,r2,f0,f1,f2⟩:=cells_three hbR6
       have Hfin:Hid (Chg Nob w _):=((hcY).any (S:=At1 (w.heap.size+1))).trans1 (chg_three wc (w.heap.size+1) (.int .i64 (tF (.nx a)).kind) (.string ⟨(tF (.nx a)).name.toArray⟩) (.slice (some ⟨bk,o,none⟩) (tF (.nx a)).kids.length cap2)) |>.mono (fun i hi e=>by have e:i=w.heap.size+1:=e;omega)
       have HT9:Hid (IsTree _ _ _ _):=fin_store (wc:=W) (u0:=(.int .i64 (tF (.nx a)).kind)) (u1:=(.string ⟨(tF (.nx a)).name.toArray⟩)) (u2:=(.slice (some ⟨bk,o,none⟩) (tF (.nx a)).kids.length cap2)) HR.out (by have:=HsW.out;omega) (HTy.out)
       have HR3:=Lib.hid (block_three_all (hbR6) (.int .i64 (tF (.nx a)).kind) (.string ⟨(tF (.nx a)).name.toArray⟩) (.slice (some ⟨bk,o,none⟩) (tF (.nx a)).kids.length cap2))
       go_wp2_with fail
       refine bodyPost_ret (results51 rfl HR3.out) rfl ⟨Hfin.out,_,rfl,?_⟩
       rw [hE];exact HT9.out
theorem small_any:∀ (f:F) (R:Nat→Prop) (w:World) (v:Value),(∀ b,R b→b < w.heap.size)→IsTree R w (tF f) v→Calls Tryz.prog 51 #[v] w (FPost R (PL.smallF f) w):=by
 have key:∀ (n:Nat) (f:F),PL.sizeF f≤n→∀ (R:Nat→Prop) (w:World) (v:Value),(∀ b,R b→b < w.heap.size)→IsTree R w (tF f) v→Calls Tryz.prog 51 #[v] w (FPost R (PL.smallF f) w):=by
  intro n
  induction n with
  | zero=>intro f h;have:=PL.sizeF_pos f;omega
  | succ n ih =>
    intro f h R w v hR hv
    exact small_step (fun g hg=>ih g (by have:=kidsF_size hg;omega)) hR hv
 exact fun f=>key _ f (Nat.le_refl _)
theorem results17 {rb:Nat} {c:Int} {tm:Array Value} {w:World} {x y z:Value} (h2:tm[2]? = some (.pointer (some ⟨rb,0,none⟩))) (h3:tm[3]? = some (.int .i64 c)) (hb:w.heap[rb]? = some (.cells #[x,y,z] 24 (0,0))) :
 (results Tryz.f17 tm).run Tryz.prog w = .ok (.tuple #[.agg #[x,y,z],.int .i64 c]) w:=by
 obtain ⟨c0,c1,c2,_⟩:=cells_three hb
 simp [results,Tryz.results17,go_sem,h2,h3,c0,c1,c2]
def RewOf (t r:T):Prop:=(normN t≠0∧r = .node 0 [] [])∨(normN t=0∧∃ f,normT t=tF f∧okF f∧r=tF (PL.smallF f))
theorem norm_plain {t:T} (h:normN t=0):∃ f,normT t=tF f∧okF f:=by
 have hm:mayT t=true:=by
  unfold normN at h
  split at h
  ·rename_i hc
   unfold checkN at hc
   split at hc
   ·cases hc
   ·rename_i hm
    cases hq:mayT t with
    | true=>rfl
    | false=>exact absurd hq hm
  ·rename_i hc;exact absurd h hc
 obtain ⟨f,h1,h2⟩:=nf_tF t hm false
 exact ⟨f,by unfold normT;rw [if_pos h];exact h1,h2⟩
theorem Rewrite_any {t:T} {v:Value} {w:World} (h:TI w t v) (hN:sizeT t≤1000000):Calls Tryz.prog 17 #[v] w fun e w'=>Chg Nob w w'∧∃ r ao cap,RewOf t r∧TI w' r (.agg #[.int .i64 r.kind,.string ⟨r.name.toArray⟩,.slice ao r.kids.length cap])∧e = .returned (.tuple #[.agg #[.int .i64 r.kind,.string ⟨r.name.toArray⟩,.slice ao r.kids.length cap],.int .i64 (normN t)]):=by
 obtain ⟨ao,cap,rfl⟩:=h.agg
 obtain ⟨W,hWe,hcW,hb0,hb1,hsW⟩:=box_two' w (.int .i64 t.kind) (.string ⟨t.name.toArray⟩) (.slice ao t.kids.length cap)
 obtain ⟨c0,c1,c2,_⟩:=cells_three hb0
 rw [hWe] at c0 c1 c2
 have hp:=(Normal_any _ t _ W (TI.nob h hcW) hN (fun _ hb=>hb)).mono (fun _ _ h=>norm_post h)
 have HcW:=Lib.hid hcW
 have Hb1:=Lib.hid hb1
 have HsW:=Lib.hid hsW
 clear h hcW hb0 hb1 hsW
 go_enter Tryz.func17,Tryz.ntmps17
 go_wp2_with fail
 rw [← hWe]
 clear hWe c0 c1 c2
 (with_reducible refine hp.mono ?_)
 clear hp
 rintro e w2 ⟨hc2,an,cn,hF,rfl⟩
 have hT:=IsTree.mono (R':=fun b=>W.heap.size≤b∧b < w2.heap.size) (fun _ _ _ h=>h) (fun b hb=>hb) _ _ hF.tree
 have Hc2:=Lib.hid hc2
 have HT:=Lib.hid hT
 clear hc2 hT
 obtain ⟨n,hn⟩:∃ n,n=normN t:=⟨_,rfl⟩
 rw [← hn]
 by_cases h0:n=0
 ·obtain ⟨f,hf,hok⟩:=norm_plain (t:=t) (by rw [← hn];exact h0)
  subst h0
  rw [hf] at HT ⊢
  have Hn:=Lib.hid hn
  have Hf:=Lib.hid hf
  have Hok:=Lib.hid hok
  have hA:Chg Nob w2 (w2.alloc (.cells #[.int .i64 (tF f).kind,.string ⟨(tF f).name.toArray⟩,.slice an (tF f).kids.length cn] 24)):=(Chg.refl _ _).alloc _
  have hp:=small_any f (fun b=>W.heap.size≤b∧b < w2.heap.size) (w2.alloc (.cells #[.int .i64 (tF f).kind,.string ⟨(tF f).name.toArray⟩,.slice an (tF f).kids.length cn] 24)) _ (fun b hb=>by have:=hA.size;omega) (IsTree.nob HT.out hA)
  have HA:=Lib.hid hA
  have Hp:=Lib.hid hp
  clear hn hf hok hA hp
  go_wp2_with fail
  (with_reducible refine Hp.out.mono ?_)
  rintro e w5 ⟨hc5,v5,rfl,ht5⟩
  obtain ⟨a5,k5,e5⟩:=ht5.agg'
  subst e5
  have Hcw5:Hid (Chg Nob W w5):=Lib.hid ((Hc2.out.trans1 HA.out).trans1 hc5)
  have hbR:=Hcw5.out.at Hb1.out (fun e=>e)
  obtain ⟨r0,r1,r2,f0,f1,f2⟩:=cells_three hbR
  have k7:=chg_three w5 (w.heap.size+1) (.int .i64 (tF (PL.smallF f)).kind) (.string ⟨(tF (PL.smallF f)).name.toArray⟩) (.slice a5 (tF (PL.smallF f)).kids.length k5)
  have Hfin:Hid (Chg Nob w _):=((HcW.out.trans1 Hcw5.out).any (S:=At1 (w.heap.size+1))).trans1 k7 |>.mono (fun i hi e=>by have e:i=w.heap.size+1:=e;omega)
  have HT9:=Lib.hid (IsTree.mono (R':=fun b=>b < (((w5.setCell ⟨w.heap.size+1,0,none⟩ (.int .i64 (tF (PL.smallF f)).kind)).setCell ⟨w.heap.size+1,1,none⟩ (.string ⟨(tF (PL.smallF f)).name.toArray⟩)).setCell ⟨w.heap.size+1,2,none⟩ (.slice a5 (tF (PL.smallF f)).kids.length k5)).heap.size) (fun a v hb h=>k7.cell' h (fun e=>by
   have e:a.block=w.heap.size+1:=e
   have h1:=HsW.out
   have h2:=Hc2.out.size
   have h3:=HA.out.size
   rcases hb with hb | hb <;> omega)) (fun b hb=>by
   have h1:=k7.size
   have h2:=hc5.size
   have h3:=HA.out.size
   rcases hb with hb | hb <;> omega) _ _ ht5)
  have HR3:=Lib.hid (block_three_all hbR (.int .i64 (tF (PL.smallF f)).kind) (.string ⟨(tF (PL.smallF f)).name.toArray⟩) (.slice a5 (tF (PL.smallF f)).kids.length k5))
  clear hbR k7 hc5 ht5
  go_wp2_with fail
  refine bodyPost_ret (results17 rfl rfl HR3.out) rfl ⟨Hfin.out,tF (PL.smallF f),a5,k5,.inr ⟨Hn.out.symm,f,Hf.out,Hok.out,rfl⟩,HT9.out,by rw [← Hn.out]⟩
 ·have hne:(n != 0)=true:=by rw [bne,beq_eq_false_iff_ne.2 h0];rfl
  have Hn:=Lib.hid hn
  have H0:=Lib.hid h0
  have hA:Chg Nob w2 (w2.alloc (.cells #[.int .i64 (normT t).kind,.string ⟨(normT t).name.toArray⟩,.slice an (normT t).kids.length cn] 24)):=(Chg.refl _ _).alloc _
  have Hcw5:=Lib.hid (Hc2.out.trans1 hA)
  have hbR:=Hcw5.out.at Hb1.out (fun e=>e)
  obtain ⟨r0,r1,r2,f0,f1,f2⟩:=cells_three hbR
  have k7:=chg_three (w2.alloc (.cells #[.int .i64 (normT t).kind,.string ⟨(normT t).name.toArray⟩,.slice an (normT t).kids.length cn] 24)) (w.heap.size+1) (.int .i64 0) (.string ⟨#[]⟩) (.slice none 0 0)
  have Hfin:Hid (Chg Nob w _):=((HcW.out.trans1 Hcw5.out).any (S:=At1 (w.heap.size+1))).trans1 k7 |>.mono (fun i hi e=>by have e:i=w.heap.size+1:=e;omega)
  have HR3:=Lib.hid (block_three_all hbR (.int .i64 0) (.string ⟨#[]⟩) (.slice none 0 0))
  clear hn h0 hA hbR k7
  go_wp2_with fail
  refine bodyPost_ret (results17 rfl rfl HR3.out) rfl ⟨Hfin.out,.node 0 [] [],none,0,.inl ⟨by rw [← Hn.out];exact H0.out,rfl⟩,TI.zero _,by rw [← Hn.out];rfl⟩
end Go.Proofs.YtkgfdgfhpdhhaaaGreat
