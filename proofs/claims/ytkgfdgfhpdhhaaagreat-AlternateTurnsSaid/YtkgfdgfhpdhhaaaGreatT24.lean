/- Parts of the walks and of the plain theory, the first: The sets of a part that is a state. Conditions: the maker and the formula lie in the world. -/
import Derived.Test.YtkgfdgfhpdhhaaaGreatT23
import Derived.Test.YtkgfdgfhpdhhaaaGreatT09
import Derived.Test.YtkgfdgfhpdhhaaaGreatT11
import Derived.Test.YtkgfdgfhpdhhaaaGreatT14
import Derived.Test.YtkgfdgfhpdhhaaaGreatT10
import Derived.Deep.DeepCutAuto
import Derived.Deep.RegionHeld3
namespace Go.Proofs.YtkgfdgfhpdhhaaaGreat
open Go.ChangeShapes Go.WideShapes Go.RowKit
attribute [local go_sem] Oper.semAt_some
set_option maxRecDepth 100000
set_option maxHeartbeats 8000000
theorem SOwn.one {w U V:World} {n:Nat} (h1:U=w.alloc (.cells #[.int .i64 (n:Int)] 3)) (h2:V=U.alloc (.cells #[.slice (some ⟨w.heap.size,0,none⟩) 1 1] 73)) :
 Chg Nob w V∧SOwn V w.heap.size (.slice (some ⟨w.heap.size+1,0,none⟩) 1 1) [[(n:Int)]] [([(n:Int)],some ⟨w.heap.size,0,none⟩,1)]:=by
 have a1:Chg Nob w U:=by rw [h1];exact (Chg.refl _ _).alloc _
 have a2:Chg Nob U V:=by rw [h2];exact (Chg.refl _ _).alloc _
 have b1:U.heap[w.heap.size]? = some (.cells #[.int .i64 (n:Int)] 3 (0,0)):=by rw [h1];exact heap_alloc_new _ _
 have s1:U.heap.size=w.heap.size+1:=by rw [h1];exact World.size_alloc _ _
 have b3:=a2.at b1 (fun e=>e)
 refine ⟨a1.trans1 a2,?_,rfl,fun y hy=>?_⟩
 ·have:=World.ownsRow_lit (base:=w.heap.size) (e:=73) (size:=1) U #[.slice (some ⟨w.heap.size,0,none⟩) 1 1] 1 (by omega) (by unfold maxLen;omega) rfl
  rw [← h2,s1] at this
  exact this
 ·obtain rfl:=List.mem_singleton.1 hy
  refine ⟨by simp,⟨fun i y hi=>?_,fun _=>⟨_,_,_,rfl,Nat.zero_le _,b3⟩⟩,fun e=>by cases e⟩
  have hi0:i=0:=by have:=(List.getElem?_eq_some_iff.1 hi).1;simp at this;omega
  subst hi0
  cases hi
  exact ⟨_,rfl,by rw [Go.WideShapes.add_plain];exact cell_row b3 0 rfl⟩
theorem sets_state {R:Nat→Prop} {mb:Nat} {nv:Value} {L:List (List UInt8)} {t:T} {f:MkS→Option (Nat × MkS)} (hk:t.kind≠1∧t.kind≠2∧t.kind≠8∧t.kind≠9) (ca:StateC R mb nv L t f):SetsC R mb nv L t (fun s=>(f s).map fun x=>([[(x.1:Int)]],x.2)):=by
 intro W D s v hM hok hT hNm hDR hRW
 obtain ⟨ao,cap,rfl,hl,-⟩:=hT.parts
 obtain ⟨kd,hkd⟩:∃ kd,kd=t.kind:=⟨_,rfl⟩
 rw [← hkd] at hT hk ⊢
 have k1:(kd==1)=false:=beq_eq_false_iff_ne.2 hk.1
 have k2:(kd==2)=false:=beq_eq_false_iff_ne.2 hk.2.1
 have k8:(kd==8)=false:=beq_eq_false_iff_ne.2 hk.2.2.1
 have k9:(kd==9)=false:=beq_eq_false_iff_ne.2 hk.2.2.2
 obtain ⟨X,hX,hcX,hbX,hsX⟩:=box_cells W #[.int .i64 kd,.string ⟨t.name.toArray⟩,.slice ao t.kids.length cap] 24
 obtain ⟨Y,hY,hcY,hbY,hsY⟩:=box_cells X #[.slice none 0 0] 35
 obtain ⟨xb,hxb⟩:∃ xb,xb=W.heap.size:=⟨_,rfl⟩
 rw [← hxb] at hbX hsX
 have hcXY:Chg Nob W Y:=hcX.trans1 hcY
 have hpa:=ca Y D s _ (hM.nob hcXY) hok (hT.nob hcXY) (hNm.nob hcXY) hDR (fun q hq=>Nat.lt_of_lt_of_le (hRW q hq) hcXY.size)
 obtain ⟨x0,x1,x2,_⟩:=cells_three (hcY.at hbX (fun e=>e))
 have HcXY:=Lib.hid hcXY
 have HDlt:Hid (∀ q,D q→q < W.heap.size):=Lib.hid hM.lt
 have Hxb:=Lib.hid hxb
 clear hM hok hT hNm hDR hRW hcX hcY hbX hbY hsX hsY hcXY hk hkd
 go_enter Tryz.func30,Tryz.ntmps30
 go_upto_region 1 with fail
 rw [← hX,← Hxb.out]
 have HY:=Lib.hid hY
 clear hX hY hxb
 go_upto_region 2 with fail
 rw [← HY.out]
 go_wp2_with fail
 (with_reducible refine hpa.mono ?_)
 clear hpa x0 x1 x2
 rintro e w2 ⟨hc2,⟨hf,rfl⟩ | ⟨n,s1,va,D2,hf,rfl,hM2,hg2,hok2,hle2,rfl,hn⟩⟩
 ·have Hf:=Lib.hid hf
  have Hc2:=Lib.hid hc2
  clear hc2 hf
  go_wp2_with fail
  exact ⟨rfl,HcXY.out.of_mk Hc2.out,.inl ⟨by rw [Hf.out];rfl,rfl⟩⟩
 ·obtain ⟨U,hU⟩:∃ U,U=w2.alloc (.cells #[.int .i64 (n:Int)] 3):=⟨_,rfl⟩
  obtain ⟨V,hV⟩:∃ V,V=U.alloc (.cells #[.slice (some ⟨w2.heap.size,0,none⟩) 1 1] 73):=⟨_,rfl⟩
  have hone:=SOwn.one hU hV
  have Hf:=Lib.hid hf
  have Hend:Hid (Chg D W V):=Lib.hid ((HcXY.out.of_mk hc2).trans hone.1 (fun _ _ e=>e.elim))
  have HM:=Lib.hid (hM2.nob hone.1)
  have Hgr:Hid (Grows D D2 W.heap.size):=Lib.hid (fun k hk=>(hg2 k hk).imp id (fun e=>Nat.le_trans HcXY.out.size e))
  have Hok2:=Lib.hid hok2
  have Hle2:=Lib.hid hle2
  have Hown:Hid (SOwn V W.heap.size (.slice (some ⟨w2.heap.size+1,0,none⟩) 1 1) [[(n:Int)]] [([(n:Int)],some ⟨w2.heap.size,0,none⟩,1)]):=(show SOwn V W.heap.size _ _ _ from ⟨ownsRow_mono hone.2.own (Nat.le_trans HcXY.out.size hc2.size),hone.2.fst,hone.2.tos⟩)
  have HD2:Hid (∀ q,D2 q→q < w2.heap.size):=Lib.hid hM2.lt
  have Hn:=Lib.hid hn
  have hUs:U.heap.size=w2.heap.size+1:=by rw [hU];exact World.size_alloc _ _
  clear hf hc2 hM2 hg2 hok2 hle2 hone hn
  go_wp2_with fail
  rw [← hU,← hV]
  try rw [hUs]
  go_ret
  exact ⟨Hend.out,.inr ⟨_,s1,_,D2,by rw [Hf.out];rfl,rfl,HM.out,Hgr.out,Hok2.out,Hle2.out,⟨_,Hown.out⟩,fun q hq e=>by
   cases hq
   have h9:w2.heap.size+1 < w2.heap.size:=HD2.out _ e
   omega,by simp,fun l hl=>by
   rw [List.mem_singleton] at hl
   subst hl
   have hn1:=Hn.out
   exact ⟨by simp,fun k hk=>by rw [List.mem_singleton] at hk;omega⟩⟩⟩
end Go.Proofs.YtkgfdgfhpdhhaaaGreat
namespace Go.Proofs.YtkgfdgfhpdhhaaaGreat
open Go.ChangeShapes Go.WideShapes Go.ChangeAt Go.RowKit Go.Maps
attribute [local go_sem] Oper.semAt_some
set_option maxRecDepth 100000
set_option maxHeartbeats 1000000
theorem SOwn.lrow {W:World} {lo:Nat} {sl:Value} {ls:List (List Int)} {xs:List StS} (h:SOwn W lo sl ls xs):∃ ao c,sl = .slice ao ls.length c∧LRow W ao ls:=by
 obtain ⟨ao,c,e,k⟩:=h.sin
 refine ⟨ao,c,e,fun j l hj=>?_⟩
 have hx:(xs.map (·.1))[j]? = some l:=by rw [h.fst];exact hj
 rw [List.getElem?_map] at hx
 cases hxj:xs[j]? with
 | none=>rw [hxj] at hx;cases hx
 | some x =>
   rw [hxj] at hx
   obtain rfl:x.1=l:=by simpa using hx
   obtain ⟨b,o,e,c0,hl,ht,_⟩:=k j x hxj
   exact ⟨_,x.2.1,x.2.2,e,by rw [Go.WideShapes.add_plain];exact c0,hl,ht.1⟩
theorem flatR_at:∀ {l:List StR} {j:Nat} {x:StR},l[j]? = some x→∀ {q:Nat},q < 2→(l.flatMap cellsR)[j * 2+q]? = (cellsR x)[q]?
 | [],_,_,h,_,_=>by simp at h
 | y::l,0,x,h,q,hq=>by
   obtain rfl:y=x:=by simpa using h
   rw [List.flatMap_cons,Nat.zero_mul,Nat.zero_add,List.getElem?_append_left (by simpa [cellsR] using hq)]
 | y::l,j+1,x,h,q,hq=>by
   rw [List.flatMap_cons,List.getElem?_append_right (by simp [cellsR];omega)]
   have:=flatR_at (l:=l) (j:=j) (x:=x) (by simpa using h) hq
   rw [← this]
   congr 1
   simp [cellsR]
   omega
theorem MkIs.srow {D:Nat→Prop} {W:World} {mb:Nat} {nv:Value} {s:MkS} {mv:Int} (h:MkIs W D mb nv s mv):∃ ao c,W.cell? ⟨mb,1,none⟩=some (.slice ao s.sts.length c)∧SRow W ao s.sts:=by
 obtain ⟨h1,h2,h3,sv,pb,lo,xs,dm,hb,dmb,dpb,hm,hnum,hrow,hfst,hown,hx⟩:=h
 have hxl:xs.length=s.sts.length:=by rw [← hfst,List.length_map]
 rcases Nat.eq_zero_or_pos s.sts.length with h0 | hpos
 ·obtain ⟨ao,c,rfl⟩:=ownsRow_shape hrow
  refine ⟨ao,c,cell_row hb 1 rfl,fun j st hj=>?_⟩
  have:=(List.getElem?_eq_some_iff.1 hj).1
  omega
 ·obtain ⟨g,c,rfl,hc⟩:=ownsRow_some hrow hpos
  refine ⟨_,c,cell_row hb 1 rfl,fun j st hj=>?_⟩
  have hj2:(xs.map (·.1))[j]? = some st:=by rw [hfst];exact hj
  rw [List.getElem?_map] at hj2
  cases hxj:xs[j]? with
  | none=>rw [hxj] at hj2;cases hj2
  | some x =>
    rw [hxj] at hj2
    obtain rfl:x.1=st:=by simpa using hj2
    obtain ⟨⟨l,ho⟩,_,hlen⟩:=hx x (List.mem_of_getElem? hxj)
    obtain ⟨am,cm,em,hmr⟩:=ho.row
    have q0:=hc (j * 2+0) _ ((flatR_at hxj (q:=0) (by decide)).trans rfl)
    have q1:=hc (j * 2+1) _ ((flatR_at hxj (q:=1) (by decide)).trans rfl)
    rw [Go.WideShapes.add_plain] at q0 q1
    exact ⟨g,0,am,cm,rfl,q0,by rw [← em];exact q1,by omega,hmr⟩
theorem MkIs.init {W U V:World} {nv:Value} (h1:U=W.alloc (.map #[] 0)) (h2:V=U.alloc (.cells #[nv,.slice none 0 0,.map (some W.heap.size),.int .i64 0] 62)) :
 Chg Nob W V∧MkIs V (fun q=>q=W.heap.size+1∨q=W.heap.size) (W.heap.size+1) nv ⟨[],[]⟩ 0:=by
 have a1:Chg Nob W U:=by rw [h1];exact (Chg.refl _ _).alloc _
 have a2:Chg Nob U V:=by rw [h2];exact (Chg.refl _ _).alloc _
 have s1:U.heap.size=W.heap.size+1:=by rw [h1];exact World.size_alloc _ _
 have s2:V.heap.size=W.heap.size+2:=by rw [h2,World.size_alloc,s1]
 have b2:V.heap[W.heap.size+1]? = some (.cells #[nv,.slice none 0 0,.map (some W.heap.size),.int .i64 0] 62 (0,0)):=by rw [h2,← s1];exact heap_alloc_new _ _
 have hm:U.ownsMap Tryz.prog 9 (plainElem (H:=Unit) Tryz.prog 3) W.heap.size 0 (.map []):=by rw [h1];exact World.ownsMap_made _ _ _ _
 have b1:∃ es c,V.heap[W.heap.size]? = some (.map es c):=by
  obtain ⟨es,c,hb,_⟩:=hm
  exact ⟨es,c,a2.at hb (fun e=>e)⟩
 refine ⟨a1.trans1 a2,⟨fun k hk=>by rcases hk with rfl | rfl <;> omega,fun k hk cs m e=>?_,⟨Nat.le_refl _,by simp⟩,.slice none 0 0,W.heap.size,0,[],.map [],b2,.inl rfl,.inr rfl,ownsMap_chg hm a2 (fun e=>e),⟨isMap_empty,fun k=>⟨rfl,fun n hn=>by cases hn⟩⟩,World.ownsRow_nil _ _ _ _,rfl,fun q hq=>by simp [Value.ownBlock] at hq,fun x hx=>by cases hx⟩⟩
 rcases hk with rfl | rfl
 ·rw [b2] at e;simp at e
 ·obtain ⟨es,c,hb⟩:=b1
  rw [hb] at e;simp at e
theorem acatch_idle (p q:Addr) (w:World) :
 CallsD Tryz.prog 29 #[.pointer (some p),.pointer (some q)] .returning w fun e u' w'=>e = .returned (.tuple #[])∧u' = .returning∧w'=w:=by
 have h20:Tryz.prog.underlying 20=some (.interface (Tryz.prog.methodsAt 20)):=by kernel_rfl
 have hne:∀ w:World,(Go.binOp .neq 20 .nilIface .nilIface).run Tryz.prog w = .ok (.bool false) w:=fun w=>Go.run_neq_nil_nil w 20 h20
 refine callsD_of_wpS Tryz.func29 rfl fun c₀ cs hu=>?_
 apply wpS_seq
 apply wpS_region
 simp [wpOpsS,go_sem,recoverD,hu,Tryz.ntmps29,Exit.thenS]
 simp only [Array.replicate_succ,Array.replicate_zero,List.push_toArray,List.append_toArray,List.nil_append,List.cons_append,List.setIfInBounds_toArray,List.set_cons_succ,List.set_cons_zero]
 refine wpS_of_wp ?_
 go_wp2
 cases c₀
 simp_all [bodyPostS,results,Tryz.results29]
theorem results11 {B:Nat} {tm:Array Value} {w:World} {a0 a1 m0:Value} (h2:tm[4]? = some (.pointer (some ⟨B,0,none⟩))) (h3:tm[5]? = some (.pointer (some ⟨B+1,0,none⟩))) (hb:w.heap[B]? = some (.cells #[a0,a1] 38 (0,0))) (hb1:w.heap[B+1]? = some (.cells #[m0] 32 (0,0))) :
 (results Tryz.f11 tm).run Tryz.prog w = .ok (.tuple #[.agg #[a0,a1],m0]) w:=by
 obtain ⟨c0,c1,_⟩:=cell_two hb
 have d0:=cell_row hb1 0 (v:=m0) rfl
 simp [results,Tryz.results11,go_sem,h2,h3,c0,c1,d0]
end Go.Proofs.YtkgfdgfhpdhhaaaGreat
namespace Go.Proofs.YtkgfdgfhpdhhaaaGreat
open PL (F)
def tF:F→T
 | .tt=> .node 1 [] []
 | .ff=> .node 2 [] []
 | .pr n=> .node 3 n []
 | .np n=> .node 4 [] [.node 3 n []]
 | .nx a=> .node 5 [] [tF a]
 | .an a b=> .node 8 [] [tF a,tF b]
 | .or a b=> .node 9 [] [tF a,tF b]
 | .un a b=> .node 12 [] [tF a,tF b]
 | .re a b=> .node 13 [] [tF a,tF b]
theorem tF_inj:∀ a b:F,tF a=tF b→a=b:=by
 intro a
 induction a with
 | tt=>intro b h;cases b <;> simp_all [tF]
 | ff=>intro b h;cases b <;> simp_all [tF]
 | pr n=>intro b h;cases b <;> simp_all [tF]
 | np n=>intro b h;cases b <;> simp_all [tF]
 | nx a ih =>
   intro b h
   cases b <;> simp [tF] at h
   rw [ih _ h]
 | an a b iha ihb =>
   intro c h
   cases c <;> simp [tF] at h
   rw [iha _ h.1,ihb _ h.2]
 | or a b iha ihb =>
   intro c h
   cases c <;> simp [tF] at h
   rw [iha _ h.1,ihb _ h.2]
 | un a b iha ihb =>
   intro c h
   cases c <;> simp [tF] at h
   rw [iha _ h.1,ihb _ h.2]
 | re a b iha ihb =>
   intro c h
   cases c <;> simp [tF] at h
   rw [iha _ h.1,ihb _ h.2]
theorem sameT_tF (a b:F):sameT (tF a) (tF b)=decide (a=b):=by
 by_cases h:a=b
 ·rw [h,sameT_refl];simp
 ·rw [decide_eq_false h,Bool.eq_false_iff]
  intro e
  exact h (tF_inj _ _ ((sameT_iff _ _).1 e))
def okF (f:F):Prop:=∀ n,n∈PL.namesF f→nameB n=true
theorem okF.an {a b:F}:okF (.an a b)↔okF a∧okF b:=by
 unfold okF;simp only [PL.namesF,List.mem_append]
 exact ⟨fun h=>⟨fun n hn=>h n (.inl hn),fun n hn=>h n (.inr hn)⟩,fun h n hn=>hn.elim (h.1 n) (h.2 n)⟩
theorem okF.or {a b:F}:okF (.or a b)↔okF a∧okF b:=okF.an (a:=a) (b:=b)
theorem okF.un {a b:F}:okF (.un a b)↔okF a∧okF b:=okF.an (a:=a) (b:=b)
theorem okF.re {a b:F}:okF (.re a b)↔okF a∧okF b:=okF.an (a:=a) (b:=b)
theorem okF.nx {a:F}:okF (.nx a)↔okF a:=Iff.rfl
theorem nf_tF:∀ t:T,mayT t=true→∀ no,∃ f,nfT t no=tF f∧okF f:=by
 have leaf:∀ k:Int,k=1∨k=2→∃ f,T.node k [] []=tF f∧okF f:=by
  rintro k (rfl | rfl)
  ·exact ⟨.tt,rfl,fun n hn=>by simp [PL.namesF] at hn⟩
  ·exact ⟨.ff,rfl,fun n hn=>by simp [PL.namesF] at hn⟩
 have two:∀ (k:Int) (a b:T),(k=8∨k=9∨k=12∨k=13)→(∃ f,a=tF f∧okF f)→(∃ f,b=tF f∧okF f)→∃ f,T.node k [] [a,b]=tF f∧okF f:=by
  rintro k _ _ hk ⟨f,rfl,hf⟩ ⟨g,rfl,hg⟩
  rcases hk with rfl | rfl | rfl | rfl
  ·exact ⟨.an f g,rfl,okF.an.2 ⟨hf,hg⟩⟩
  ·exact ⟨.or f g,rfl,okF.or.2 ⟨hf,hg⟩⟩
  ·exact ⟨.un f g,rfl,okF.un.2 ⟨hf,hg⟩⟩
  ·exact ⟨.re f g,rfl,okF.re.2 ⟨hf,hg⟩⟩
 refine kid_induct ?_
 intro t ih h no
 rw [nfT_eq]
 rcases may_shape h with ⟨hk,hn,hl⟩ | ⟨hk,hn,hl⟩ | ⟨hk,hn,a,hl,ha⟩ | ⟨hk,hn,a,b,hl,ha,hb⟩
 ·rw [if_pos hk]
  rcases hk with e | e
  ·rw [e];exact leaf _ (flip_1 no)
  ·rw [e];exact leaf _ (flip_2 no)
 ·rw [if_neg (by omega),if_pos hk]
  cases no
  ·exact ⟨.pr t.name,rfl,fun n h=>by simp [PL.namesF] at h;rw [h];exact hn⟩
  ·exact ⟨.np t.name,rfl,fun n h=>by simp [PL.namesF] at h;rw [h];exact hn⟩
 ·rw [if_neg (by omega),if_neg (by omega),hl,nfL_one]
  have fa:=ih a (by rw [hl];simp) ha
  have hk':t.kind=4∨t.kind=5∨t.kind=6∨t.kind=7:=by omega
  rcases hk' with e | e | e | e
  ·rw [e];exact fa _
  ·rw [e]
   obtain ⟨f,h1,h2⟩:=fa no
   exact ⟨.nx f,by show T.node 5 [] [nfT a no]=_;rw [h1];rfl,okF.nx.2 h2⟩
  ·rw [e];exact two _ _ _ (flip_two (by omega) no) (leaf _ (flip_2 no)) (fa _)
  ·rw [e];exact two _ _ _ (flip_two (by omega) no) (leaf _ (flip_1 no)) (fa _)
 ·rw [if_neg (by omega),if_neg (by omega),hl,nfL_two]
  have fa:=ih a (by rw [hl];simp) ha
  have fb:=ih b (by rw [hl];simp) hb
  have hk':t.kind=8∨t.kind=9∨t.kind=10∨t.kind=11∨t.kind=12∨t.kind=13∨t.kind=14:=by omega
  rcases hk' with e | e | e | e | e | e | e
  ·rw [e];exact two _ _ _ (flip_two (by omega) no) (fa _) (fb _)
  ·rw [e];exact two _ _ _ (flip_two (by omega) no) (fa _) (fb _)
  ·rw [e];exact two _ _ _ (flip_two (by omega) no) (fa _) (fb _)
  ·rw [e];exact two _ _ _ (by omega) (two _ _ _ (by omega) (fa _) (fb _)) (two _ _ _ (by omega) (fa _) (fb _))
  ·rw [e];exact two _ _ _ (flip_two (by omega) no) (fa _) (fb _)
  ·rw [e];exact two _ _ _ (flip_two (by omega) no) (fa _) (fb _)
  ·rw [e];exact two _ _ _ (flip_two (by omega) no) (fb _) (two _ _ _ (flip_two (by omega) no) (fa _) (fb _))
theorem tF_size (f:F):sizeT (tF f)=PL.sizeF f:=by
 induction f with
 | tt | ff | pr _ | np _=>simp [tF,sizeT,sizeL,PL.sizeF]
 | nx a ih=>simp [tF,sizeT,sizeL,PL.sizeF,ih];omega
 | an a b iha ihb | or a b iha ihb | un a b iha ihb | re a b iha ihb=>simp [tF,sizeT,sizeL,PL.sizeF,iha,ihb];omega
end Go.Proofs.YtkgfdgfhpdhhaaaGreat
namespace Go.Proofs.YtkgfdgfhpdhhaaaGreat
open Go.ChangeShapes Go.WideShapes Go.RowKit
open PL (F)
set_option maxRecDepth 100000
set_option maxHeartbeats 1000000
theorem truth_any {t:T} {v:Value} {w:World} (h:TI w t v):Calls Tryz.prog 86 #[v] w fun e w'=>e = .returned (.bool (t.kind==1))∧Chg Nob w w':=by
 obtain ⟨ao,cap,rfl⟩:=h.agg
 have hc:Chg Nob w (w.alloc (.cells #[.int .i64 t.kind,.string ⟨t.name.toArray⟩,.slice ao t.kids.length cap] 24)):=(Chg.refl _ _).alloc _
 clear h
 go_enter Tryz.func86,Tryz.ntmps86
 go_wp2
 go_ret
 exact ⟨rfl,hc⟩
theorem falsity_any {t:T} {v:Value} {w:World} (h:TI w t v):Calls Tryz.prog 87 #[v] w fun e w'=>e = .returned (.bool (t.kind==2))∧Chg Nob w w':=by
 obtain ⟨ao,cap,rfl⟩:=h.agg
 have hc:Chg Nob w (w.alloc (.cells #[.int .i64 t.kind,.string ⟨t.name.toArray⟩,.slice ao t.kids.length cap] 24)):=(Chg.refl _ _).alloc _
 clear h
 go_enter Tryz.func87,Tryz.ntmps87
 go_wp2
 go_ret
 exact ⟨rfl,hc⟩
theorem TI.kid {w:World} {t x:T} {ao:Option Addr} {cap j:Nat} {a b:Value} (h:TI w t (.agg #[a,b,.slice ao t.kids.length cap])) (hx:t.kids[j]? = some x) :
 ∃ bk o sx cx,ao=some ⟨bk,o,none⟩∧w.cell? ⟨bk,o+j * 3,none⟩=some (.int .i64 x.kind)∧w.cell? ⟨bk,o+j * 3+1,none⟩=some (.string ⟨x.name.toArray⟩)∧w.cell? ⟨bk,o+j * 3+2,none⟩=some (.slice sx x.kids.length cx) ∧
   TI w x (.agg #[.int .i64 x.kind,.string ⟨x.name.toArray⟩,.slice sx x.kids.length cx]):=by
 obtain ⟨ao',cap',e,_,hk⟩:=h.parts
 simp at e
 obtain ⟨-,-,rfl,rfl⟩:=e
 obtain ⟨bk,o,ak,cx,h1,_,h2,h3,h4,_,_,h5⟩:=hk.kid hx
 exact ⟨bk,o,ak,cx,h1,h2,h3,h4,h5⟩
def kinB (t:T) (k c:Int):Bool:=(t.kind==k)&&(headK t.kids==c)
theorem kin_any {t:T} {v:Value} {w:World} {k c:Int} {g:Nat} (hg:(g=86∧c=1)∨(g=87∧c=2)) (h:TI w t v) (hk:t.kind=k→t.kids≠[]) :
 Calls Tryz.prog 141 #[v,.int .i64 k,.func (.func g) #[] #[]] w fun e w'=>e = .returned (.bool (kinB t k c))∧Chg Nob w w':=by
 obtain ⟨ao,cap,rfl⟩:=h.agg
 have hc:Chg Nob w (w.alloc (.cells #[.int .i64 t.kind,.string ⟨t.name.toArray⟩,.slice ao t.kids.length cap] 24)):=(Chg.refl _ _).alloc _
 cases hkk:(t.kind==k) with
 | false =>
   have Hr:Hid (kinB t k c=false):=(show kinB t k c=false by unfold kinB;rw [hkk];rfl)
   clear h hk
   go_enter Tryz.func141,Tryz.ntmps141
   go_wp2
   go_ret
   exact ⟨by rw [Hr.out];rfl,hc⟩
 | true =>
   have hne:=hk (by simpa using hkk)
   obtain ⟨x,l,hl⟩:∃ x l,t.kids=x::l:=by
    cases hq:t.kids with
    | nil=>exact absurd hq hne
    | cons x l=>exact ⟨x,l,rfl⟩
   have Hr:Hid (kinB t k c=(x.kind==c)):=(show kinB t k c=(x.kind==c) by unfold kinB;rw [hkk,hl];rfl)
   obtain ⟨bk,o,sx,cx,rfl,c0,c1,c2,hx⟩:=h.kid (j:=0) (x:=x) (by rw [hl];rfl)
   have d0:=hc.cell' c0 (fun e=>e)
   have d1:=hc.cell' c1 (fun e=>e)
   have d2:=hc.cell' c2 (fun e=>e)
   have hx':=hx.nob hc
   have hlen:(0:Int) < (t.kids.length:Int):=by rw [hl];simp
   have hp1:=truth_any hx'
   have hp2:=falsity_any hx'
   have Hc:=Lib.hid hc
   clear h hk hne hl c0 c1 c2 hx hx' hc
   rw [Nat.zero_mul,Nat.add_zero] at d0 d1 d2
   rcases hg with ⟨rfl,rfl⟩ | ⟨rfl,rfl⟩
   ·clear hp2
    go_enter Tryz.func141,Tryz.ntmps141
    go_wp2_with fail
    (with_reducible refine hp1.mono ?_)
    clear hp1
    rintro e w' ⟨rfl,hc'⟩
    go_wp2
    go_ret
    exact ⟨by rw [Hr.out];rfl,Hc.out.trans1 hc'⟩
   ·clear hp1
    go_enter Tryz.func141,Tryz.ntmps141
    go_wp2_with fail
    (with_reducible refine hp2.mono ?_)
    clear hp2
    rintro e w' ⟨rfl,hc'⟩
    go_wp2
    go_ret
    exact ⟨by rw [Hr.out];rfl,Hc.out.trans1 hc'⟩
end Go.Proofs.YtkgfdgfhpdhhaaaGreat
