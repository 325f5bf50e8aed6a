/- ltl's joined: what a plain and, or is made. Conditions: the formula lies in the world. -/
import Derived.Test.YtkgfdgfhpdhhaaaGreatT27
namespace Go.Proofs.YtkgfdgfhpdhhaaaGreat
open Go.ChangeShapes Go.WideShapes Go.RowKit
open PL (F)
set_option maxRecDepth 100000
set_option maxHeartbeats 16000000
theorem newin_step {R:Nat→Prop} {wc w5 w6:World} (h1:wc.heap.size≤w5.heap.size) (h2:w5.heap.size≤w6.heap.size):∀ b,NewIn (NewIn R wc w5) w5 w6 b→NewIn R wc w6 b:=by
 rintro b ((h | h) | h)
 ·exact .inl h
 ·exact .inr ⟨h.1,by omega⟩
 ·exact .inr ⟨by omega,h.2⟩
theorem newin_le {R:Nat→Prop} {wc w5 w6:World} (h2:w5.heap.size≤w6.heap.size):∀ b,NewIn R wc w5 b→NewIn R wc w6 b:=by
 rintro b (h | h)
 ·exact .inl h
 ·exact .inr ⟨h.1,by omega⟩
theorem newin_lt {R:Nat→Prop} {w wc w5:World} (hR:∀ b,R b→b < w.heap.size) (h0:w.heap.size≤wc.heap.size) (h:wc.heap.size≤w5.heap.size):∀ b,NewIn R wc w5 b→b < w5.heap.size:=by
 rintro b (hb | hb)
 ·have:=hR b hb;omega
 ·exact hb.2
theorem fin_store {R:Nat→Prop} {w wc wn:World} {t:T} {u0 u1 u2 v:Value} (hR:∀ b,R b→b < w.heap.size) (h2:w.heap.size+2≤wc.heap.size) (hT:IsTree (NewIn R wc wn) wn t v) :
 IsTree (NewIn R w (((wn.setCell ⟨w.heap.size+1,0,none⟩ u0).setCell ⟨w.heap.size+1,1,none⟩ u1).setCell ⟨w.heap.size+1,2,none⟩ u2)) (((wn.setCell ⟨w.heap.size+1,0,none⟩ u0).setCell ⟨w.heap.size+1,1,none⟩ u1).setCell ⟨w.heap.size+1,2,none⟩ u2) t v:=by
 have k:=chg_three wn (w.heap.size+1) u0 u1 u2
 refine IsTree.mono (fun a v hb h=>k.cell' h (fun e=>?_)) (fun b hb=>?_) _ _ hT
 ·have e:a.block=w.heap.size+1:=e
  rcases hb with hb | hb
  ·have:=hR _ hb;omega
  ·omega
 ·have h5:=k.size
  rcases hb with hb | hb
  ·exact .inl hb
  ·exact .inr ⟨by omega,by omega⟩
theorem kF_nx {b:F} (h:(tF b).kind=5):∃ x,b = .nx x:=by
 cases b <;> first | exact ⟨_,rfl⟩ | (simp [tF,T.kind] at h)
def restJ (c:Bool):F→F→F
 | .nx x,.nx y=> .nx (PL.joinedF c x y)
 | .re .ff x,.re .ff y=>if c then PL.releaseF .ff (PL.joinedF c x y) else PL.jn c (.re .ff x) (.re .ff y)
 | .un .tt x,.un .tt y=>if c then PL.jn c (.un .tt x) (.un .tt y) else PL.untilF .tt (PL.joinedF c x y)
 | a,b=>PL.jn c a b
theorem joined_rest (c:Bool) (a b:F):PL.joinedF c a b=(PL.baseF c a b).getD (restJ c a b):=by
 induction a,b using PL.joinedF.induct with
 | case1 x y _=>rw [PL.joinedF,restJ]
 | case2 x y _=>rw [PL.joinedF,restJ]
 | case3 x y _=>rw [PL.joinedF,restJ]
 | case4 a b h1 h2 h3 =>
   rw [PL.joinedF,restJ]
   all_goals assumption
def kJ (c:Bool):Int:=if c then 8 else 9
def nJ (c:Bool):Int:=if c then 2 else 1
def yJ (c:Bool):Int:=if c then 1 else 2
theorem nJ_iff {c:Bool} {a:F}:(tF a).kind=nJ c↔a=PL.noF c:=by
 cases c
 ·exact kF_tt
 ·exact kF_ff
theorem yJ_iff {c:Bool} {a:F}:(tF a).kind=yJ c↔a=PL.yesF c:=by
 cases c
 ·exact kF_ff
 ·exact kF_tt
def j1 (c:Bool) (a b:F):Bool:=((tF a).kind==nJ c) || ((tF b).kind==yJ c)
theorem j1_iff {c:Bool} {a b:F}:j1 c a b=true↔(a=PL.noF c∨b=PL.yesF c):=by
 unfold j1
 rw [Bool.or_eq_true,beq_iff_eq,beq_iff_eq,nJ_iff,yJ_iff]
theorem joined_1 {c:Bool} {a b:F} (h:j1 c a b=true):PL.joinedF c a b=a:=by
 rw [joined_rest,PL.baseF,if_pos (j1_iff.1 h)];rfl
theorem no_j {c:Bool} {a b:F} (h:j1 c a b=false):¬ (a=PL.noF c∨b=PL.yesF c):=fun e=>by
 rw [j1_iff.2 e] at h;cases h
theorem joined_2 {c:Bool} {a b:F} (h0:j1 c a b=false) (h:j1 c b a=true):PL.joinedF c a b=b:=by
 rw [joined_rest,PL.baseF,if_neg (no_j h0),if_pos (j1_iff.1 h)];rfl
theorem joined_3 {c:Bool} {a b:F} (h0:j1 c a b=false) (h1:j1 c b a=false) (h:sameT (tF a) (tF b)=true):PL.joinedF c a b=a:=by
 rw [sameT_tF,decide_eq_true_iff] at h
 rw [joined_rest,PL.baseF,if_neg (no_j h0),if_neg (no_j h1),if_pos h];rfl
theorem ne_same {a b:F} (h:sameT (tF a) (tF b)=false):¬ a=b:=by
 rw [sameT_tF,decide_eq_false_iff_not] at h;exact h
theorem joined_4 {c:Bool} {a b:F} (h0:j1 c a b=false) (h1:j1 c b a=false) (h2:sameT (tF a) (tF b)=false) (h:PL.oppF a b=true):PL.joinedF c a b=PL.noF c:=by
 rw [joined_rest,PL.baseF,if_neg (no_j h0),if_neg (no_j h1),if_neg (ne_same h2),if_pos h];rfl
theorem joined_5 {c:Bool} {a b:F} (h0:j1 c a b=false) (h1:j1 c b a=false) (h2:sameT (tF a) (tF b)=false) (h:PL.oppF a b=false):PL.joinedF c a b=restJ c a b:=by
 rw [joined_rest,PL.baseF,if_neg (no_j h0),if_neg (no_j h1),if_neg (ne_same h2),if_neg (by rw [h];exact Bool.false_ne_true)];rfl
def j5 (a b:F):Bool:=((tF a).kind==5)&&((tF b).kind==5)
theorem rest_5 {c:Bool} {a b:F} (h:j5 a b=true):∃ x y,a = .nx x∧b = .nx y∧restJ c a b = .nx (PL.joinedF c x y):=by
 unfold j5 at h
 rw [Bool.and_eq_true,beq_iff_eq,beq_iff_eq] at h
 obtain ⟨x,rfl⟩:=kF_nx h.1
 obtain ⟨y,rfl⟩:=kF_nx h.2
 exact ⟨x,y,rfl,rfl,rfl⟩
def j6 (a b:F):Bool:=kinB (tF a) 13 2&&kinB (tF b) 13 2
def j7 (a b:F):Bool:=kinB (tF a) 12 1&&kinB (tF b) 12 1
theorem rest_6 {a b:F} (h:j6 a b=true):∃ x y,a = .re .ff x∧b = .re .ff y∧restJ true a b=PL.releaseF .ff (PL.joinedF true x y):=by
 unfold j6 at h
 rw [Bool.and_eq_true,kinB_re,kinB_re] at h
 obtain ⟨⟨x,rfl⟩,y,rfl⟩:=h
 exact ⟨x,y,rfl,rfl,rfl⟩
theorem rest_7 {a b:F} (h:j7 a b=true):∃ x y,a = .un .tt x∧b = .un .tt y∧restJ false a b=PL.untilF .tt (PL.joinedF false x y):=by
 unfold j7 at h
 rw [Bool.and_eq_true,kinB_un,kinB_un] at h
 obtain ⟨⟨x,rfl⟩,y,rfl⟩:=h
 exact ⟨x,y,rfl,rfl,rfl⟩
theorem rest_8 {c:Bool} {a b:F} (h5:j5 a b=false) (h6:c=true→j6 a b=false) (h7:c=false→j7 a b=false):restJ c a b=PL.jn c a b:=by
 unfold restJ
 split
 ·cases h5
 ·rename_i x y
  cases c
  ·rfl
  ·have:=h6 rfl
   cases this
 ·rename_i x y
  cases c
  ·have:=h7 rfl
   cases this
  ·rfl
 ·rfl
theorem tF_jn (c:Bool) (a b:F):tF (PL.jn c a b) = .node (kJ c) [] [tF a,tF b]:=by cases c <;> rfl
theorem results85 {rb:Nat} {tm:Array Value} {w:World} {x y z:Value} (h2:tm[2]? = some (.pointer (some ⟨rb,0,none⟩))) (hb:w.heap[rb]? = some (.cells #[x,y,z] 24 (0,0))):(results Tryz.f85 tm).run Tryz.prog w = .ok (.agg #[x,y,z]) w:=by
 obtain ⟨c0,c1,c2,_⟩:=cells_three hb
 simp [results,Tryz.results85,go_sem,h2,c0,c1,c2]
theorem joined_step_8 {R:Nat→Prop} {a b:F} {v:Value} {w:World} (hR:∀ b,R b→b < w.heap.size) (hv:IsTree R w (.node 8 [] [tF a,tF b]) v)
 (hrec:∀ x,(a = .nx x∨a = .re .ff x)→∀ (y:F) (R':Nat→Prop) w' v',(∀ b,R' b→b < w'.heap.size)→IsTree R' w' (.node 8 [] [tF x,tF y]) v'→Calls Tryz.prog 85 #[v'] w' (FPost R' (PL.joinedF true x y) w')) :
 Calls Tryz.prog 85 #[v] w (FPost R (PL.joinedF true a b) w):=by
 obtain ⟨ao,cap,e0⟩:=hv.agg'
 have e1:v = .agg #[.int .i64 8,.string ⟨#[]⟩,.slice ao 2 cap]:=e0
 clear e0
 subst e1
 obtain ⟨bk,o,sa,ca,rfl,x0,x1,x2,ha⟩:=hv.kid' (j:=0) (x:=tF a) rfl
 obtain ⟨bk',o',sb,cb,e,y0,y1,y2,hb⟩:=hv.kid' (j:=1) (x:=tF b) rfl
 cases e
 obtain ⟨W1,hW1e,hW1,hbv,hbr,hsz⟩:=box_two' w (.int .i64 8) (.string ⟨#[]⟩) (.slice (some ⟨bk,o,none⟩) 2 cap)
 rw [Nat.zero_mul,Nat.add_zero] at x0 x1 x2
 rw [Nat.one_mul] at y0 y1 y2
 have Hv:=Lib.hid hv
 have HR:=Lib.hid hR
 have Ha:=Lib.hid ha
 have Hb:=Lib.hid hb
 have HW1:=Lib.hid hW1
 have Hbv:=Lib.hid hbv
 have Hbr:=Lib.hid hbr
 have Hsz:=Lib.hid hsz
 have Hrec:=Lib.hid hrec
 have x0':=hW1.cell' x0 (fun e=>e)
 have x1':=hW1.cell' x1 (fun e=>e)
 have x2':=hW1.cell' x2 (fun e=>e)
 have y0':=hW1.cell' y0 (fun e=>e)
 have y1':=hW1.cell' y1 (fun e=>e)
 have y2':=hW1.cell' y2 (fun e=>e)
 have v2':=cell_row hbv 2 (v:= .slice (some ⟨bk,o,none⟩) 2 cap) rfl
 have hx:∀ w',Chg Nob W1 w'→w'.cell? ⟨bk,o,none⟩=some (.int .i64 (tF a).kind)∧w'.cell? ⟨bk,o+1,none⟩=some (.string ⟨(tF a).name.toArray⟩)∧w'.cell? ⟨bk,o+2,none⟩=some (.slice sa (tF a).kids.length ca) ∧
  w'.cell? ⟨bk,o+3,none⟩=some (.int .i64 (tF b).kind)∧w'.cell? ⟨bk,o+3+1,none⟩=some (.string ⟨(tF b).name.toArray⟩)∧w'.cell? ⟨bk,o+3+2,none⟩=some (.slice sb (tF b).kids.length cb)∧w'.cell? ⟨w.heap.size,2,none⟩=some (.slice (some ⟨bk,o,none⟩) 2 cap):=fun w' h =>
  ⟨h.cell' x0' (fun e=>e),h.cell' x1' (fun e=>e),h.cell' x2' (fun e=>e),h.cell' y0' (fun e=>e),h.cell' y1' (fun e=>e),h.cell' y2' (fun e=>e),h.cell' v2' (fun e=>e)⟩
 obtain ⟨p0,p1,p2,p3,p4,p5,p6⟩:=hx W1.drew (Chg.refl _ _).drew
 have hSx:=Lib.hid hx
 clear hR hv ha hb hbv hbr hsz hrec x0 x1 x2 y0 y1 y2 hW1 hx x0' x1' x2' y0' y1' y2' v2'
 go_enter Tryz.func85,Tryz.ntmps85
 go_upto_region 1 with fail
 rw [← hW1e]
 clear hW1e
 go_cut [3,4] from 7 to 14 (fun t3 t4 wx=>∃ p q:Nat,t3 = .pointer (some ⟨p,0,none⟩)∧t4 = .pointer (some ⟨q,0,none⟩)∧Hid (Chg Nob W1 wx∧wx.heap[p]? = some (.cells #[.int .i64 (tF a).kind,.string ⟨(tF a).name.toArray⟩,.slice sa (tF a).kids.length ca] 24 (0,0))∧wx.heap[q]? = some (.cells #[.int .i64 (tF b).kind,.string ⟨(tF b).name.toArray⟩,.slice sb (tF b).kids.length cb] 24 (0,0))))
 case first =>
  go_wp2_with fail
  refine wp_region_free (fun j=>j != 11) (fun w'=>w'.cell? ⟨bk,o,none⟩=some (.int .i64 (tF a).kind)∧w'.cell? ⟨bk,o+1,none⟩=some (.string ⟨(tF a).name.toArray⟩)∧w'.cell? ⟨bk,o+2,none⟩=some (.slice sa (tF a).kids.length ca)∧w'.cell? ⟨bk,o+3,none⟩=some (.int .i64 (tF b).kind)∧w'.cell? ⟨bk,o+3+1,none⟩=some (.string ⟨(tF b).name.toArray⟩)∧w'.cell? ⟨bk,o+3+2,none⟩=some (.slice sb (tF b).kids.length cb)∧w'.cell? ⟨w.heap.size,2,none⟩=some (.slice (some ⟨bk,o,none⟩) 2 cap)) (by kernel_rfl) ⟨p0,p1,p2,p3,p4,p5,p6⟩ (fun hHeld=>?_)
  refine tkG 0 hHeld ?_
  refine tkG 1 hHeld ?_
  refine tkG 2 hHeld ?_
  refine tkG 3 hHeld ?_
  refine tkG 4 hHeld ?_
  refine tkG 5 hHeld ?_
  refine tkG 6 hHeld ?_
  refine tkG 7 hHeld ?_
  refine wpAnyG_ready (rs:=[8,9]) (by kernel_rfl) (by simp) ?_
  refine AllReadyG.cons rfl (fun K hK=>?_) (AllReadyG.cons rfl (fun K hK=>?_) AllReadyG.nil)
  ·rw [if_pos (by kernel_rfl)]
   have hS1:=hSx.out ((W1.alloc (.cells #[.int .i64 0,.string ⟨#[]⟩,.slice none 0 0] 24)).drew) (((Chg.refl _ _).alloc _).drew)
   go_simp
   refine hK.out _ _ (fun _=>hS1) ?_
   clear hK K
   try simp only [Act.put]
   refine rdG 9 fun K hK=>?_
   have hS2:=hSx.out (((W1.alloc (.cells #[.int .i64 0,.string ⟨#[]⟩,.slice none 0 0] 24)).alloc (.cells #[.int .i64 0,.string ⟨#[]⟩,.slice none 0 0] 24)).drew) ((((Chg.refl _ _).alloc _).alloc _).drew)
   go_simp
   refine hK.out _ _ (fun _=>hS2) ?_
   clear hK K
   try simp only [Act.put]
   refine rdG 10 fun K hK=>?_
   have hS3:=hSx.out (((W1.alloc (.cells #[(.int .i64 (tF a).kind),(.string ⟨(tF a).name.toArray⟩),(.slice sa (tF a).kids.length ca)] 24)).alloc (.cells #[.int .i64 0,.string ⟨#[]⟩,.slice none 0 0] 24)).drew) ((((Chg.refl _ _).alloc _).alloc _).drew)
   go_simp
   refine hK.out _ _ (fun _=>hS3) ?_
   clear hK K
   try simp only [Act.put]
   refine rdG 11 fun K hK=>?_
   go_simp
   refine hK.out _ _ (fun h=>absurd h (by decide)) ?_
   clear hK K
   try simp only [Act.put]
   refine wpAnyG_done (by kernel_rfl) ?_ _
   go_simp
   have h0:Chg Nob W1 ((W1.alloc (.cells #[(.int .i64 (tF a).kind),(.string ⟨(tF a).name.toArray⟩),(.slice sa (tF a).kids.length ca)] 24)).alloc (.cells #[(.int .i64 (tF b).kind),(.string ⟨(tF b).name.toArray⟩),(.slice sb (tF b).kids.length cb)] 24)).drew:=(((Chg.refl _ _).alloc _).alloc _).drew
   have h1:((W1.alloc (.cells #[(.int .i64 (tF a).kind),(.string ⟨(tF a).name.toArray⟩),(.slice sa (tF a).kids.length ca)] 24)).alloc (.cells #[(.int .i64 (tF b).kind),(.string ⟨(tF b).name.toArray⟩),(.slice sb (tF b).kids.length cb)] 24)).drew.heap[W1.heap.size]? = some (.cells #[(.int .i64 (tF a).kind),(.string ⟨(tF a).name.toArray⟩),(.slice sa (tF a).kids.length ca)] 24 (0,0)):=((Chg.refl Nob _).alloc (.cells #[(.int .i64 (tF b).kind),(.string ⟨(tF b).name.toArray⟩),(.slice sb (tF b).kids.length cb)] 24)).at (heap_alloc_new W1 (.cells #[(.int .i64 (tF a).kind),(.string ⟨(tF a).name.toArray⟩),(.slice sa (tF a).kids.length ca)] 24)) (fun e=>e)
   have h2:((W1.alloc (.cells #[(.int .i64 (tF a).kind),(.string ⟨(tF a).name.toArray⟩),(.slice sa (tF a).kids.length ca)] 24)).alloc (.cells #[(.int .i64 (tF b).kind),(.string ⟨(tF b).name.toArray⟩),(.slice sb (tF b).kids.length cb)] 24)).drew.heap[W1.heap.size+1]? = some (.cells #[(.int .i64 (tF b).kind),(.string ⟨(tF b).name.toArray⟩),(.slice sb (tF b).kids.length cb)] 24 (0,0)):=by
    have h:=heap_alloc_new (W1.alloc (.cells #[(.int .i64 (tF a).kind),(.string ⟨(tF a).name.toArray⟩),(.slice sa (tF a).kids.length ca)] 24)) (.cells #[(.int .i64 (tF b).kind),(.string ⟨(tF b).name.toArray⟩),(.slice sb (tF b).kids.length cb)] 24)
    rwa [World.size_alloc] at h
   go_wp2_with fail
   go_meet
   case rel=>exact ⟨W1.heap.size,W1.heap.size+1,rfl,rfl,h0,h1,h2⟩
  ·rw [if_pos (by kernel_rfl)]
   have hS1:=hSx.out ((W1.alloc (.cells #[.int .i64 0,.string ⟨#[]⟩,.slice none 0 0] 24)).drew) (((Chg.refl _ _).alloc _).drew)
   go_simp
   refine hK.out _ _ (fun _=>hS1) ?_
   clear hK K
   try simp only [Act.put]
   refine rdG 8 fun K hK=>?_
   have hS2:=hSx.out (((W1.alloc (.cells #[.int .i64 0,.string ⟨#[]⟩,.slice none 0 0] 24)).alloc (.cells #[.int .i64 0,.string ⟨#[]⟩,.slice none 0 0] 24)).drew) ((((Chg.refl _ _).alloc _).alloc _).drew)
   go_simp
   refine hK.out _ _ (fun _=>hS2) ?_
   clear hK K
   try simp only [Act.put]
   refine rdG 10 fun K hK=>?_
   have hS3:=hSx.out (((W1.alloc (.cells #[.int .i64 0,.string ⟨#[]⟩,.slice none 0 0] 24)).alloc (.cells #[(.int .i64 (tF a).kind),(.string ⟨(tF a).name.toArray⟩),(.slice sa (tF a).kids.length ca)] 24)).drew) ((((Chg.refl _ _).alloc _).alloc _).drew)
   go_simp
   refine hK.out _ _ (fun _=>hS3) ?_
   clear hK K
   try simp only [Act.put]
   refine rdG 11 fun K hK=>?_
   go_simp
   refine hK.out _ _ (fun h=>absurd h (by decide)) ?_
   clear hK K
   try simp only [Act.put]
   refine wpAnyG_done (by kernel_rfl) ?_ _
   go_simp
   have h0:Chg Nob W1 ((W1.alloc (.cells #[(.int .i64 (tF b).kind),(.string ⟨(tF b).name.toArray⟩),(.slice sb (tF b).kids.length cb)] 24)).alloc (.cells #[(.int .i64 (tF a).kind),(.string ⟨(tF a).name.toArray⟩),(.slice sa (tF a).kids.length ca)] 24)).drew:=(((Chg.refl _ _).alloc _).alloc _).drew
   have h1:((W1.alloc (.cells #[(.int .i64 (tF b).kind),(.string ⟨(tF b).name.toArray⟩),(.slice sb (tF b).kids.length cb)] 24)).alloc (.cells #[(.int .i64 (tF a).kind),(.string ⟨(tF a).name.toArray⟩),(.slice sa (tF a).kids.length ca)] 24)).drew.heap[W1.heap.size]? = some (.cells #[(.int .i64 (tF b).kind),(.string ⟨(tF b).name.toArray⟩),(.slice sb (tF b).kids.length cb)] 24 (0,0)):=((Chg.refl Nob _).alloc (.cells #[(.int .i64 (tF a).kind),(.string ⟨(tF a).name.toArray⟩),(.slice sa (tF a).kids.length ca)] 24)).at (heap_alloc_new W1 (.cells #[(.int .i64 (tF b).kind),(.string ⟨(tF b).name.toArray⟩),(.slice sb (tF b).kids.length cb)] 24)) (fun e=>e)
   have h2:((W1.alloc (.cells #[(.int .i64 (tF b).kind),(.string ⟨(tF b).name.toArray⟩),(.slice sb (tF b).kids.length cb)] 24)).alloc (.cells #[(.int .i64 (tF a).kind),(.string ⟨(tF a).name.toArray⟩),(.slice sa (tF a).kids.length ca)] 24)).drew.heap[W1.heap.size+1]? = some (.cells #[(.int .i64 (tF a).kind),(.string ⟨(tF a).name.toArray⟩),(.slice sa (tF a).kids.length ca)] 24 (0,0)):=by
    have h:=heap_alloc_new (W1.alloc (.cells #[(.int .i64 (tF b).kind),(.string ⟨(tF b).name.toArray⟩),(.slice sb (tF b).kids.length cb)] 24)) (.cells #[(.int .i64 (tF a).kind),(.string ⟨(tF a).name.toArray⟩),(.slice sa (tF a).kids.length ca)] 24)
    rwa [World.size_alloc] at h
   go_wp2_with fail
   go_meet
   case rel=>exact ⟨W1.heap.size+1,W1.heap.size,rfl,rfl,h0,h2,h1⟩
 case rest =>
  obtain ⟨p,q,rfl,rfl,hcut2⟩:=hcut
  obtain ⟨W2,hW2⟩:∃ X,X=wc:=⟨_,rfl⟩
  subst hW2
  have hcb:=hcut2.out.1
  have hcut1:=Lib.hid hcb
  have hpb:=hcut2.out.2.1
  have hqb:=hcut2.out.2.2
  have HcW:Hid (Chg Nob w W2):=Lib.hid (HW1.out.trans1 hcb)
  have Hv2:Hid (∀ w',Chg Nob W2 w'→w'.heap[w.heap.size]? = some (.cells #[.int .i64 8,.string ⟨#[]⟩,.slice (some ⟨bk,o,none⟩) 2 cap] 24 (0,0))∧w'.heap[w.heap.size+1]? = some (.cells #[.int .i64 0,.string ⟨#[]⟩,.slice none 0 0] 24 (0,0))) :=
   (show ∀ w',Chg Nob W2 w'→_ from fun w' h=>⟨(hcb.trans1 h).at Hbv.out (fun e=>e),(hcb.trans1 h).at Hbr.out (fun e=>e)⟩)
  have HS:Hid (∀ w',Chg Nob W2 w'→w'.cell? ⟨p,0,none⟩=some (.int .i64 (tF a).kind)∧w'.cell? ⟨p,1,none⟩=some (.string ⟨(tF a).name.toArray⟩)∧w'.cell? ⟨p,2,none⟩=some (.slice sa (tF a).kids.length ca) ∧
   w'.cell? ⟨q,0,none⟩=some (.int .i64 (tF b).kind)∧w'.cell? ⟨q,1,none⟩=some (.string ⟨(tF b).name.toArray⟩)∧w'.cell? ⟨q,2,none⟩=some (.slice sb (tF b).kids.length cb) ∧
   TI w' (tF a) (.agg #[.int .i64 (tF a).kind,.string ⟨(tF a).name.toArray⟩,.slice sa (tF a).kids.length ca])∧TI w' (tF b) (.agg #[.int .i64 (tF b).kind,.string ⟨(tF b).name.toArray⟩,.slice sb (tF b).kids.length cb])) :=
   (show ∀ w',Chg Nob W2 w'→_ from fun w' h=>by
    obtain ⟨a0,a1,a2,_⟩:=cells_three (h.at hpb (fun e=>e))
    obtain ⟨b0,b1,b2,_⟩:=cells_three (h.at hqb (fun e=>e))
    exact ⟨a0,a1,a2,b0,b1,b2,(Ha.out.ti HR.out).nob (HcW.out.trans1 h),(Hb.out.ti HR.out).nob (HcW.out.trans1 h)⟩)
  have hcur:=Chg.refl Nob W2
  obtain ⟨x0,x1,x2,y0,y1,y2,ta,tb⟩:=HS.out _ hcur
  clear hcut2 hcb hpb hqb hSx p0 p1 p2 p3 p4 p5 p6
  obtain ⟨v0,v1,v2,_⟩:=cells_three (Hv2.out _ hcur).1
  go_upto_region 5 with fail
  clear v0 v1 v2
  go_upto_region 5 with fail
  go_cut [18] from 19 to 26 (fun tt wx=>tt = .bool (j1 true a b)∧Hid (Chg Nob W2 wx))
  case first =>
   cases h1:((tF a).kind==2) with
   | true =>
     go_wp2_with (first | (go_at_call 86;(with_reducible refine (truth_any ta).mono ?_);rintro e w' ⟨rfl,hc'⟩;replace hcur:=hcur.trans1 hc';clear hc' x0 x1 x2 y0 y1 y2 ta tb;obtain ⟨x0,x1,x2,y0,y1,y2,ta,tb⟩:=HS.out _ hcur) | (go_at_call 86;(with_reducible refine (truth_any tb).mono ?_);rintro e w' ⟨rfl,hc'⟩;replace hcur:=hcur.trans1 hc';clear hc' x0 x1 x2 y0 y1 y2 ta tb;obtain ⟨x0,x1,x2,y0,y1,y2,ta,tb⟩:=HS.out _ hcur) | (go_at_call 87;(with_reducible refine (falsity_any ta).mono ?_);rintro e w' ⟨rfl,hc'⟩;replace hcur:=hcur.trans1 hc';clear hc' x0 x1 x2 y0 y1 y2 ta tb;obtain ⟨x0,x1,x2,y0,y1,y2,ta,tb⟩:=HS.out _ hcur) | (go_at_call 87;(with_reducible refine (falsity_any tb).mono ?_);rintro e w' ⟨rfl,hc'⟩;replace hcur:=hcur.trans1 hc';clear hc' x0 x1 x2 y0 y1 y2 ta tb;obtain ⟨x0,x1,x2,y0,y1,y2,ta,tb⟩:=HS.out _ hcur))
     go_meet
     case rel=>exact ⟨congrArg Value.bool (by unfold j1;rw [show nJ true=2 from rfl,h1];rfl),hcur⟩
   | false =>
     go_wp2_with (first | (go_at_call 86;(with_reducible refine (truth_any ta).mono ?_);rintro e w' ⟨rfl,hc'⟩;replace hcur:=hcur.trans1 hc';clear hc' x0 x1 x2 y0 y1 y2 ta tb;obtain ⟨x0,x1,x2,y0,y1,y2,ta,tb⟩:=HS.out _ hcur) | (go_at_call 86;(with_reducible refine (truth_any tb).mono ?_);rintro e w' ⟨rfl,hc'⟩;replace hcur:=hcur.trans1 hc';clear hc' x0 x1 x2 y0 y1 y2 ta tb;obtain ⟨x0,x1,x2,y0,y1,y2,ta,tb⟩:=HS.out _ hcur) | (go_at_call 87;(with_reducible refine (falsity_any ta).mono ?_);rintro e w' ⟨rfl,hc'⟩;replace hcur:=hcur.trans1 hc';clear hc' x0 x1 x2 y0 y1 y2 ta tb;obtain ⟨x0,x1,x2,y0,y1,y2,ta,tb⟩:=HS.out _ hcur) | (go_at_call 87;(with_reducible refine (falsity_any tb).mono ?_);rintro e w' ⟨rfl,hc'⟩;replace hcur:=hcur.trans1 hc';clear hc' x0 x1 x2 y0 y1 y2 ta tb;obtain ⟨x0,x1,x2,y0,y1,y2,ta,tb⟩:=HS.out _ hcur))
     go_meet
     case rel=>exact ⟨congrArg Value.bool (by unfold j1;rw [show nJ true=2 from rfl,h1];rfl),hcur⟩
  case rest =>
  obtain ⟨rfl,hcw⟩:=hcut
  replace hcur:=hcw.out
  clear hcw x0 x1 x2 y0 y1 y2 ta tb
  obtain ⟨x0,x1,x2,y0,y1,y2,ta,tb⟩:=HS.out _ hcur
  cases hj1:j1 true a b with
  | true =>
    have hRb:=(Hv2.out _ hcur).2
    obtain ⟨r0,r1,r2,f0,f1,f2⟩:=cells_three hRb
    obtain ⟨v0,v1,v2,_⟩:=cells_three (Hv2.out _ hcur).1
    have hfin:Chg Nob w _:=((HcW.out.trans1 hcur).any (S:=At1 (w.heap.size+1))).trans1 (chg_three wc (w.heap.size+1) (.int .i64 (tF a).kind) (.string ⟨(tF a).name.toArray⟩) (.slice sa (tF a).kids.length ca)) |>.mono (fun i hi e=>by have e:i=w.heap.size+1:=e;omega)
    have Hfin:=Lib.hid hfin
    have HR3:=Lib.hid (block_three_all hRb (.int .i64 (tF a).kind) (.string ⟨(tF a).name.toArray⟩) (.slice sa (tF a).kids.length ca))
    clear hRb hfin ta tb
    go_wp2_with fail
    refine bodyPost_ret (results85 rfl HR3.out) rfl ⟨Hfin.out,_,rfl,?_⟩
    rw [joined_1 hj1]
    exact IsTree.mono (fun _ _ _ h=>Hfin.out.cell' h (fun e=>e)) (fun _ hb=> .inl hb) _ _ Ha.out
  | false =>
  go_upto_region 7 with fail
  go_cut [28] from 29 to 36 (fun tt wx=>tt = .bool (j1 true b a)∧Hid (Chg Nob W2 wx))
  case first =>
   cases h1:((tF b).kind==2) with
   | true =>
     go_wp2_with (first | (go_at_call 86;(with_reducible refine (truth_any ta).mono ?_);rintro e w' ⟨rfl,hc'⟩;replace hcur:=hcur.trans1 hc';clear hc' x0 x1 x2 y0 y1 y2 ta tb;obtain ⟨x0,x1,x2,y0,y1,y2,ta,tb⟩:=HS.out _ hcur) | (go_at_call 86;(with_reducible refine (truth_any tb).mono ?_);rintro e w' ⟨rfl,hc'⟩;replace hcur:=hcur.trans1 hc';clear hc' x0 x1 x2 y0 y1 y2 ta tb;obtain ⟨x0,x1,x2,y0,y1,y2,ta,tb⟩:=HS.out _ hcur) | (go_at_call 87;(with_reducible refine (falsity_any ta).mono ?_);rintro e w' ⟨rfl,hc'⟩;replace hcur:=hcur.trans1 hc';clear hc' x0 x1 x2 y0 y1 y2 ta tb;obtain ⟨x0,x1,x2,y0,y1,y2,ta,tb⟩:=HS.out _ hcur) | (go_at_call 87;(with_reducible refine (falsity_any tb).mono ?_);rintro e w' ⟨rfl,hc'⟩;replace hcur:=hcur.trans1 hc';clear hc' x0 x1 x2 y0 y1 y2 ta tb;obtain ⟨x0,x1,x2,y0,y1,y2,ta,tb⟩:=HS.out _ hcur))
     go_meet
     case rel=>exact ⟨congrArg Value.bool (by unfold j1;rw [show nJ true=2 from rfl,h1];rfl),hcur⟩
   | false =>
     go_wp2_with (first | (go_at_call 86;(with_reducible refine (truth_any ta).mono ?_);rintro e w' ⟨rfl,hc'⟩;replace hcur:=hcur.trans1 hc';clear hc' x0 x1 x2 y0 y1 y2 ta tb;obtain ⟨x0,x1,x2,y0,y1,y2,ta,tb⟩:=HS.out _ hcur) | (go_at_call 86;(with_reducible refine (truth_any tb).mono ?_);rintro e w' ⟨rfl,hc'⟩;replace hcur:=hcur.trans1 hc';clear hc' x0 x1 x2 y0 y1 y2 ta tb;obtain ⟨x0,x1,x2,y0,y1,y2,ta,tb⟩:=HS.out _ hcur) | (go_at_call 87;(with_reducible refine (falsity_any ta).mono ?_);rintro e w' ⟨rfl,hc'⟩;replace hcur:=hcur.trans1 hc';clear hc' x0 x1 x2 y0 y1 y2 ta tb;obtain ⟨x0,x1,x2,y0,y1,y2,ta,tb⟩:=HS.out _ hcur) | (go_at_call 87;(with_reducible refine (falsity_any tb).mono ?_);rintro e w' ⟨rfl,hc'⟩;replace hcur:=hcur.trans1 hc';clear hc' x0 x1 x2 y0 y1 y2 ta tb;obtain ⟨x0,x1,x2,y0,y1,y2,ta,tb⟩:=HS.out _ hcur))
     go_meet
     case rel=>exact ⟨congrArg Value.bool (by unfold j1;rw [show nJ true=2 from rfl,h1];rfl),hcur⟩
  case rest =>
  obtain ⟨rfl,hcw⟩:=hcut
  replace hcur:=hcw.out
  clear hcw x0 x1 x2 y0 y1 y2 ta tb
  obtain ⟨x0,x1,x2,y0,y1,y2,ta,tb⟩:=HS.out _ hcur
  cases hj2:j1 true b a with
  | true =>
    have hRb:=(Hv2.out _ hcur).2
    obtain ⟨r0,r1,r2,f0,f1,f2⟩:=cells_three hRb
    obtain ⟨v0,v1,v2,_⟩:=cells_three (Hv2.out _ hcur).1
    have hfin:Chg Nob w _:=((HcW.out.trans1 hcur).any (S:=At1 (w.heap.size+1))).trans1 (chg_three wc (w.heap.size+1) (.int .i64 (tF b).kind) (.string ⟨(tF b).name.toArray⟩) (.slice sb (tF b).kids.length cb)) |>.mono (fun i hi e=>by have e:i=w.heap.size+1:=e;omega)
    have Hfin:=Lib.hid hfin
    have HR3:=Lib.hid (block_three_all hRb (.int .i64 (tF b).kind) (.string ⟨(tF b).name.toArray⟩) (.slice sb (tF b).kids.length cb))
    clear hRb hfin ta tb
    go_wp2_with fail
    refine bodyPost_ret (results85 rfl HR3.out) rfl ⟨Hfin.out,_,rfl,?_⟩
    rw [joined_2 hj1 hj2]
    exact IsTree.mono (fun _ _ _ h=>Hfin.out.cell' h (fun e=>e)) (fun _ hb=> .inl hb) _ _ Hb.out
  | false =>
  go_upto_region 9 with fail
  go_cut [38] from 39 to 41 (fun tt wx=>tt = .bool (sameT (tF a) (tF b))∧Hid (Chg Nob W2 wx))
  case first =>
   go_wp2_with (first | (go_at_call 138;(with_reducible refine (same_ti ta tb).mono ?_);rintro e w' ⟨rfl,hc'⟩;replace hcur:=hcur.trans1 hc';clear hc' x0 x1 x2 y0 y1 y2 ta tb;obtain ⟨x0,x1,x2,y0,y1,y2,ta,tb⟩:=HS.out _ hcur))
   go_meet
   case rel=>exact ⟨congrArg Value.bool (by rfl),hcur⟩
  case rest =>
  obtain ⟨rfl,hcw⟩:=hcut
  replace hcur:=hcw.out
  clear hcw x0 x1 x2 y0 y1 y2 ta tb
  obtain ⟨x0,x1,x2,y0,y1,y2,ta,tb⟩:=HS.out _ hcur
  cases hj3:sameT (tF a) (tF b) with
  | true =>
    have hRb:=(Hv2.out _ hcur).2
    obtain ⟨r0,r1,r2,f0,f1,f2⟩:=cells_three hRb
    obtain ⟨v0,v1,v2,_⟩:=cells_three (Hv2.out _ hcur).1
    have hfin:Chg Nob w _:=((HcW.out.trans1 hcur).any (S:=At1 (w.heap.size+1))).trans1 (chg_three wc (w.heap.size+1) (.int .i64 (tF a).kind) (.string ⟨(tF a).name.toArray⟩) (.slice sa (tF a).kids.length ca)) |>.mono (fun i hi e=>by have e:i=w.heap.size+1:=e;omega)
    have Hfin:=Lib.hid hfin
    have HR3:=Lib.hid (block_three_all hRb (.int .i64 (tF a).kind) (.string ⟨(tF a).name.toArray⟩) (.slice sa (tF a).kids.length ca))
    clear hRb hfin ta tb
    go_wp2_with fail
    refine bodyPost_ret (results85 rfl HR3.out) rfl ⟨Hfin.out,_,rfl,?_⟩
    rw [joined_3 hj1 hj2 hj3]
    exact IsTree.mono (fun _ _ _ h=>Hfin.out.cell' h (fun e=>e)) (fun _ hb=> .inl hb) _ _ Ha.out
  | false =>
  go_upto_region 11 with fail
  go_cut [43] from 44 to 46 (fun tt wx=>tt = .bool (PL.oppF a b)∧Hid (Chg Nob W2 wx))
  case first =>
   go_wp2_with (first | (go_at_call 139;(with_reducible refine (opposite_any ta tb).mono ?_);rintro e w' ⟨rfl,hc'⟩;replace hcur:=hcur.trans1 hc';clear hc' x0 x1 x2 y0 y1 y2 ta tb;obtain ⟨x0,x1,x2,y0,y1,y2,ta,tb⟩:=HS.out _ hcur))
   go_meet
   case rel=>exact ⟨congrArg Value.bool (by rfl),hcur⟩
  case rest =>
  obtain ⟨rfl,hcw⟩:=hcut
  replace hcur:=hcw.out
  clear hcw x0 x1 x2 y0 y1 y2 ta tb
  obtain ⟨x0,x1,x2,y0,y1,y2,ta,tb⟩:=HS.out _ hcur
  cases hj4:PL.oppF a b with
  | true =>
    have hRb:=(Hv2.out _ hcur).2
    obtain ⟨r0,r1,r2,f0,f1,f2⟩:=cells_three hRb
    obtain ⟨v0,v1,v2,_⟩:=cells_three (Hv2.out _ hcur).1
    have hfin:Chg Nob w _:=((HcW.out.trans1 hcur).any (S:=At1 (w.heap.size+1))).trans1 (chg_three wc (w.heap.size+1) (.int .i64 2) (.string ⟨#[]⟩) (.slice none 0 0)) |>.mono (fun i hi e=>by have e:i=w.heap.size+1:=e;omega)
    have Hfin:=Lib.hid hfin
    have HR3:=Lib.hid (block_three_all hRb (.int .i64 2) (.string ⟨#[]⟩) (.slice none 0 0))
    clear hRb hfin ta tb
    go_wp2_with fail
    refine bodyPost_ret (results85 rfl HR3.out) rfl ⟨Hfin.out,_,rfl,?_⟩
    rw [joined_4 hj1 hj2 hj3 hj4]
    exact show IsTree _ _ (.node 2 [] []) _ from by rw [IsTree];exact ⟨none,0,rfl,by simp,by rw [IsKids];trivial⟩
  | false =>
  go_upto_region 15 with fail
  go_cut [52] from 53 to 60 (fun tt wx=>tt = .bool (j5 a b)∧Hid (Chg Nob W2 wx))
  case first =>
   cases h1:((tF a).kind==5) with
   | true =>
     go_wp2_with fail
     go_meet
     case rel=>exact ⟨congrArg Value.bool (by unfold j5;rw [h1];rfl),hcur⟩
   | false =>
     go_wp2_with fail
     go_meet
     case rel=>exact ⟨congrArg Value.bool (by unfold j5;rw [h1];rfl),hcur⟩
  case rest =>
  obtain ⟨rfl,hcw⟩:=hcut
  replace hcur:=hcw.out
  clear hcw x0 x1 x2 y0 y1 y2 ta tb
  obtain ⟨x0,x1,x2,y0,y1,y2,ta,tb⟩:=HS.out _ hcur
  cases hj5:j5 a b with
  | true =>
    obtain ⟨x,y,haE,hbE,hE⟩:=rest_5 (c:=true) hj5
    have hE:=(joined_5 hj1 hj2 hj3 hj4).trans hE
    have hlenA:0 < (tF a).kids.length:=by rw [haE];simp [tF,T.kids]
    have hlenB:0 < (tF b).kids.length:=by rw [hbE];simp [tF,T.kids]
    obtain ⟨mk,mo,mq,mc,em,z0,z1,z2,hty⟩:=Ha.out.kid' (j:=0) (x:=tF x) (by rw [haE];rfl)
    rw [Nat.zero_mul,Nat.add_zero] at z0 z1 z2
    have Hm:Hid (∀ w',Chg Nob W2 w'→w'.cell? ⟨mk,mo,none⟩=some (.int .i64 (tF x).kind)∧w'.cell? ⟨mk,mo+1,none⟩=some (.string ⟨(tF x).name.toArray⟩)∧w'.cell? ⟨mk,mo+2,none⟩=some (.slice mq (tF x).kids.length mc)∧IsTree R w' (tF x) (.agg #[.int .i64 (tF x).kind,.string ⟨(tF x).name.toArray⟩,.slice mq (tF x).kids.length mc])):=(show ∀ w',Chg Nob W2 w'→_ from fun w' h=>⟨(HcW.out.trans1 h).cell' z0 (fun e=>e),(HcW.out.trans1 h).cell' z1 (fun e=>e),(HcW.out.trans1 h).cell' z2 (fun e=>e),hty.nob (HcW.out.trans1 h)⟩)
    clear z0 z1 z2 hty
    obtain ⟨nk,no,nq,nc,en,z0,z1,z2,hty⟩:=Hb.out.kid' (j:=0) (x:=tF y) (by rw [hbE];rfl)
    rw [Nat.zero_mul,Nat.add_zero] at z0 z1 z2
    have Hn:Hid (∀ w',Chg Nob W2 w'→w'.cell? ⟨nk,no,none⟩=some (.int .i64 (tF y).kind)∧w'.cell? ⟨nk,no+1,none⟩=some (.string ⟨(tF y).name.toArray⟩)∧w'.cell? ⟨nk,no+2,none⟩=some (.slice nq (tF y).kids.length nc)∧IsTree R w' (tF y) (.agg #[.int .i64 (tF y).kind,.string ⟨(tF y).name.toArray⟩,.slice nq (tF y).kids.length nc])):=(show ∀ w',Chg Nob W2 w'→_ from fun w' h=>⟨(HcW.out.trans1 h).cell' z0 (fun e=>e),(HcW.out.trans1 h).cell' z1 (fun e=>e),(HcW.out.trans1 h).cell' z2 (fun e=>e),hty.nob (HcW.out.trans1 h)⟩)
    clear z0 z1 z2 hty
    have hrx:=Hrec.out x (.inl haE) y
    have Hrx:=Lib.hid hrx
    have HE:=Lib.hid hE
    subst em en
    clear haE hbE hE hrx
    obtain ⟨v0,v1,v2,_⟩:=cells_three (Hv2.out _ hcur).1
    have hS0:wc.cell? ⟨w.heap.size,0,none⟩=some (.int .i64 8)∧wc.cell? ⟨p,2,none⟩=some (.slice (some ⟨mk,mo,none⟩) (tF a).kids.length ca)∧wc.cell? ⟨q,2,none⟩=some (.slice (some ⟨nk,no,none⟩) (tF b).kids.length cb)∧wc.cell? ⟨mk,mo,none⟩=some (.int .i64 (tF x).kind)∧wc.cell? ⟨mk,mo+1,none⟩=some (.string ⟨(tF x).name.toArray⟩)∧wc.cell? ⟨mk,mo+2,none⟩=some (.slice mq (tF x).kids.length mc)∧wc.cell? ⟨nk,no,none⟩=some (.int .i64 (tF y).kind)∧wc.cell? ⟨nk,no+1,none⟩=some (.string ⟨(tF y).name.toArray⟩)∧wc.cell? ⟨nk,no+2,none⟩=some (.slice nq (tF y).kids.length nc):=⟨v0,x2,y2,(Hm.out _ hcur).1,(Hm.out _ hcur).2.1,(Hm.out _ hcur).2.2.1,(Hn.out _ hcur).1,(Hn.out _ hcur).2.1,(Hn.out _ hcur).2.2.1⟩
    have Hcur:=Lib.hid hcur
    clear x0 x1 x2 y0 y1 y2 ta tb hcur v0 v1 v2
    have HlW:Hid (w.heap.size≤wc.heap.size):=(show w.heap.size≤wc.heap.size by have h1:=HcW.out.size;have h2:=Hcur.out.size;omega)
    have HlW2:Hid (w.heap.size+2≤wc.heap.size):=(show w.heap.size+2≤wc.heap.size by have h1:=hcut1.out.size;have h2:=Hcur.out.size;have h3:=Hsz.out;omega)
    have hS9:Hid (∀ w',Chg Nob wc w'→w'.cell? ⟨w.heap.size,0,none⟩=some (.int .i64 8)∧w'.cell? ⟨p,2,none⟩=some (.slice (some ⟨mk,mo,none⟩) (tF a).kids.length ca)∧w'.cell? ⟨q,2,none⟩=some (.slice (some ⟨nk,no,none⟩) (tF b).kids.length cb)∧w'.cell? ⟨mk,mo,none⟩=some (.int .i64 (tF x).kind)∧w'.cell? ⟨mk,mo+1,none⟩=some (.string ⟨(tF x).name.toArray⟩)∧w'.cell? ⟨mk,mo+2,none⟩=some (.slice mq (tF x).kids.length mc)∧w'.cell? ⟨nk,no,none⟩=some (.int .i64 (tF y).kind)∧w'.cell? ⟨nk,no+1,none⟩=some (.string ⟨(tF y).name.toArray⟩)∧w'.cell? ⟨nk,no+2,none⟩=some (.slice nq (tF y).kids.length nc)):=(show ∀ w',Chg Nob wc w'→_ from fun w' h=>by
     obtain ⟨g0,g1,g2,g3,g4,g5,g6,g7,g8⟩:=hS0
     exact ⟨h.cell' g0 (fun e=>e),h.cell' g1 (fun e=>e),h.cell' g2 (fun e=>e),h.cell' g3 (fun e=>e),h.cell' g4 (fun e=>e),h.cell' g5 (fun e=>e),h.cell' g6 (fun e=>e),h.cell' g7 (fun e=>e),h.cell' g8 (fun e=>e)⟩)
    obtain ⟨g0,g1,g2,g3,g4,g5,g6,g7,g8⟩:=hS9.out wc.drew (Chg.refl _ _).drew
    clear hS0
    go_wp2_with fail
    refine wp_region_free (fun j=>j != 13) (fun w'=>w'.cell? ⟨w.heap.size,0,none⟩=some (.int .i64 8)∧w'.cell? ⟨p,2,none⟩=some (.slice (some ⟨mk,mo,none⟩) (tF a).kids.length ca)∧w'.cell? ⟨q,2,none⟩=some (.slice (some ⟨nk,no,none⟩) (tF b).kids.length cb)∧w'.cell? ⟨mk,mo,none⟩=some (.int .i64 (tF x).kind)∧w'.cell? ⟨mk,mo+1,none⟩=some (.string ⟨(tF x).name.toArray⟩)∧w'.cell? ⟨mk,mo+2,none⟩=some (.slice mq (tF x).kids.length mc)∧w'.cell? ⟨nk,no,none⟩=some (.int .i64 (tF y).kind)∧w'.cell? ⟨nk,no+1,none⟩=some (.string ⟨(tF y).name.toArray⟩)∧w'.cell? ⟨nk,no+2,none⟩=some (.slice nq (tF y).kids.length nc)) (by kernel_rfl) ⟨g0,g1,g2,g3,g4,g5,g6,g7,g8⟩ (fun hHeld=>?_)
    refine tkG 0 hHeld ?_
    refine tkG 1 hHeld ?_
    refine tkG 2 hHeld ?_
    refine tkG 3 hHeld ?_
    refine tkG 4 hHeld ?_
    refine tkG 5 hHeld ?_
    refine tkG 6 hHeld ?_
    refine tkG 7 hHeld ?_
    refine tkG 8 hHeld ?_
    refine tkG 9 hHeld ?_
    refine rdG 10 fun K hK=>?_
    go_simp
    (with_reducible refine (two_any 8 _ _ _ _ _ _ _).mono ?_)
    rintro e w5 ⟨rfl,hc,hn⟩
    have hwd:wc.drew.heap.size=wc.heap.size:=rfl
    rw [hwd] at hn ⊢
    have hc:Chg Nob wc w5:=(Chg.refl Nob wc).drew.trans1 hc
    clear hwd
    have Hc5:Hid (Chg Nob wc w5):=Lib.hid (hc)
    have hsz:=(Array.getElem?_eq_some_iff.1 hn).1
    have hle:=hc.size
    have hl0:=Nat.le_refl wc.heap.size
    have hT:IsTree (NewIn R wc w5) w5 (.node 8 [] [tF x,tF y]) _:=IsTree.two' (k:=8) (IsTree.mono (fun _ _ _ h=>h) (fun _ hb=>Or.inl hb) _ _ (Hm.out w5 (Hcur.out.trans1 Hc5.out)).2.2.2) (IsTree.mono (fun _ _ _ h=>h) (fun _ hb=>Or.inl hb) _ _ (Hn.out w5 (Hcur.out.trans1 Hc5.out)).2.2.2) hn (.inr ⟨by omega,hsz⟩)
    have HT5:=Lib.hid hT
    clear hT hsz hle hl0 hn hc
    have hS5:=hS9.out w5 Hc5.out
    refine hK.out _ _ (fun _=>hS5) ?_
    clear hK K
    try simp only [Act.put]
    refine rdG 11 fun K hK=>?_
    go_simp
    have hp:=Hrx.out _ w5 _ (newin_lt HR.out HlW.out Hc5.out.size) HT5.out
    (with_reducible refine hp.mono ?_)
    clear hp
    rintro e w6 ⟨hc,v6,rfl,hT⟩
    obtain ⟨a6,k6,e6⟩:=hT.agg'
    subst e6
    have Hc6:=Lib.hid (Hc5.out.trans1 hc)
    have HT6:=Lib.hid (IsTree.mono (fun _ _ _ h=>h) (newin_step Hc5.out.size hc.size) _ _ hT)
    clear hT hc
    have hS6:=hS9.out w6 Hc6.out
    refine hK.out _ _ (fun _=>hS6) ?_
    clear hK K
    try simp only [Act.put]
    refine rdG 12 fun K hK=>?_
    go_simp
    (with_reducible refine (one_any 5 _ _ _ _).mono ?_)
    rintro e w7 ⟨rfl,hc,hn⟩
    have Hc7:=Lib.hid (Hc6.out.trans1 hc)
    have hsz:=(Array.getElem?_eq_some_iff.1 hn).1
    have hle:=hc.size
    have hl0:=Hc6.out.size
    have hT:IsTree (NewIn R wc w7) w7 (.node 5 [] [tF (PL.joinedF true x y)]) _:=IsTree.one' (k:=5) (IsTree.mono (fun _ _ _ h=>h) (newin_le hle) _ _ (HT6.out.nob hc)) hn (.inr ⟨by omega,hsz⟩)
    have HT7:=Lib.hid hT
    clear hT hsz hle hl0 hn hc
    have hS7:=hS9.out w7 Hc7.out
    refine hK.out _ _ (fun _=>hS7) ?_
    clear hK K
    try simp only [Act.put]
    refine rdG 13 fun K hK=>?_
    have hRb:=(Hv2.out _ (Hcur.out.trans1 Hc7.out)).2
    obtain ⟨r0,r1,r2,f0,f1,f2⟩:=cells_three hRb
    have Hfin:Hid (Chg Nob w _):=((((HcW.out.trans1 Hcur.out).trans1 Hc7.out).any (S:=At1 (w.heap.size+1))).trans1 (chg_three w7 (w.heap.size+1) (.int .i64 5) (.string ⟨#[]⟩) (.slice (some ⟨w6.heap.size+2,0,none⟩) 1 1))).mono (fun i hi e=>by have e:i=w.heap.size+1:=e;omega)
    have HT9:Hid (IsTree _ _ _ _):=fin_store (u0:=(.int .i64 5)) (u1:=(.string ⟨#[]⟩)) (u2:=(.slice (some ⟨w6.heap.size+2,0,none⟩) 1 1)) HR.out HlW2.out HT7.out
    have HR3:=Lib.hid (block_three_all hRb (.int .i64 5) (.string ⟨#[]⟩) (.slice (some ⟨w6.heap.size+2,0,none⟩) 1 1))
    clear hRb
    go_simp
    refine hK.out _ _ (fun h=>absurd h (by decide)) ?_
    clear hK K r0 r1 r2 f0 f1 f2
    try simp only [Act.put]
    refine wpAnyG_done (by kernel_rfl) ?_ _
    go_simp
    go_wp2_with fail
    refine bodyPost_ret (results85 rfl HR3.out) rfl ⟨Hfin.out,_,rfl,?_⟩
    rw [HE.out]
    exact HT9.out
  | false =>
  obtain ⟨v0,v1,v2,_⟩:=cells_three (Hv2.out _ hcur).1
  go_upto_region 17 with fail
  clear v0 v1 v2
  go_cut [74] from 75 to 85 (fun tt wx=>tt = .bool (j6 a b)∧Hid (Chg Nob W2 wx))
  case first =>
   cases h1:kinB (tF a) 13 2 with
   | true =>
     obtain ⟨v0,v1,v2,_⟩:=cells_three (Hv2.out _ hcur).1
     go_wp2_with (first | (go_at_call 141;(with_reducible refine (kin_any (.inr ⟨rfl,rfl⟩) ta (fun h=>kids_ne (.inr h))).mono ?_);rintro e w' ⟨rfl,hc'⟩;replace hcur:=hcur.trans1 hc';clear hc' x0 x1 x2 y0 y1 y2 ta tb;obtain ⟨x0,x1,x2,y0,y1,y2,ta,tb⟩:=HS.out _ hcur) | (go_at_call 141;(with_reducible refine (kin_any (.inr ⟨rfl,rfl⟩) tb (fun h=>kids_ne (.inr h))).mono ?_);rintro e w' ⟨rfl,hc'⟩;replace hcur:=hcur.trans1 hc';clear hc' x0 x1 x2 y0 y1 y2 ta tb;obtain ⟨x0,x1,x2,y0,y1,y2,ta,tb⟩:=HS.out _ hcur))
     go_meet
     case rel=>exact ⟨congrArg Value.bool (by unfold j6;rw [h1];rfl),hcur⟩
   | false =>
     obtain ⟨v0,v1,v2,_⟩:=cells_three (Hv2.out _ hcur).1
     go_wp2_with (first | (go_at_call 141;(with_reducible refine (kin_any (.inr ⟨rfl,rfl⟩) ta (fun h=>kids_ne (.inr h))).mono ?_);rintro e w' ⟨rfl,hc'⟩;replace hcur:=hcur.trans1 hc';clear hc' x0 x1 x2 y0 y1 y2 ta tb;obtain ⟨x0,x1,x2,y0,y1,y2,ta,tb⟩:=HS.out _ hcur) | (go_at_call 141;(with_reducible refine (kin_any (.inr ⟨rfl,rfl⟩) tb (fun h=>kids_ne (.inr h))).mono ?_);rintro e w' ⟨rfl,hc'⟩;replace hcur:=hcur.trans1 hc';clear hc' x0 x1 x2 y0 y1 y2 ta tb;obtain ⟨x0,x1,x2,y0,y1,y2,ta,tb⟩:=HS.out _ hcur))
     go_meet
     case rel=>exact ⟨congrArg Value.bool (by unfold j6;rw [h1];rfl),hcur⟩
  case rest =>
  obtain ⟨rfl,hcw⟩:=hcut
  replace hcur:=hcw.out
  clear hcw x0 x1 x2 y0 y1 y2 ta tb
  obtain ⟨x0,x1,x2,y0,y1,y2,ta,tb⟩:=HS.out _ hcur
  cases hj6:j6 a b with
  | true =>
    obtain ⟨x,y,haE,hbE,hE⟩:=rest_6 hj6
    have hE:=(joined_5 hj1 hj2 hj3 hj4).trans hE
    have hlenA:0 < (tF a).kids.length:=by rw [haE];simp [tF,T.kids]
    have hlenB:0 < (tF b).kids.length:=by rw [hbE];simp [tF,T.kids]
    have hlenA1:(1:Int) < ((tF a).kids.length:Int):=by rw [haE];simp [tF,T.kids]
    have hlenB1:(1:Int) < ((tF b).kids.length:Int):=by rw [hbE];simp [tF,T.kids]
    obtain ⟨lk,lo,lq,lc,el,z0,z1,z2,hty⟩:=Ha.out.kid' (j:=0) (x:=tF .ff) (by rw [haE];rfl)
    rw [Nat.zero_mul,Nat.add_zero] at z0 z1 z2
    have Hl:Hid (∀ w',Chg Nob W2 w'→w'.cell? ⟨lk,lo,none⟩=some (.int .i64 (tF .ff).kind)∧w'.cell? ⟨lk,lo+1,none⟩=some (.string ⟨(tF .ff).name.toArray⟩)∧w'.cell? ⟨lk,lo+2,none⟩=some (.slice lq (tF .ff).kids.length lc)∧IsTree R w' (tF .ff) (.agg #[.int .i64 (tF .ff).kind,.string ⟨(tF .ff).name.toArray⟩,.slice lq (tF .ff).kids.length lc])):=(show ∀ w',Chg Nob W2 w'→_ from fun w' h=>⟨(HcW.out.trans1 h).cell' z0 (fun e=>e),(HcW.out.trans1 h).cell' z1 (fun e=>e),(HcW.out.trans1 h).cell' z2 (fun e=>e),hty.nob (HcW.out.trans1 h)⟩)
    clear z0 z1 z2 hty
    obtain ⟨mk,mo,mq,mc,em,z0,z1,z2,hty⟩:=Ha.out.kid' (j:=1) (x:=tF x) (by rw [haE];rfl)
    rw [Nat.one_mul] at z0 z1 z2
    have Hm:Hid (∀ w',Chg Nob W2 w'→w'.cell? ⟨mk,mo+3,none⟩=some (.int .i64 (tF x).kind)∧w'.cell? ⟨mk,mo+3+1,none⟩=some (.string ⟨(tF x).name.toArray⟩)∧w'.cell? ⟨mk,mo+3+2,none⟩=some (.slice mq (tF x).kids.length mc)∧IsTree R w' (tF x) (.agg #[.int .i64 (tF x).kind,.string ⟨(tF x).name.toArray⟩,.slice mq (tF x).kids.length mc])):=(show ∀ w',Chg Nob W2 w'→_ from fun w' h=>⟨(HcW.out.trans1 h).cell' z0 (fun e=>e),(HcW.out.trans1 h).cell' z1 (fun e=>e),(HcW.out.trans1 h).cell' z2 (fun e=>e),hty.nob (HcW.out.trans1 h)⟩)
    clear z0 z1 z2 hty
    obtain ⟨nk,no,nq,nc,en,z0,z1,z2,hty⟩:=Hb.out.kid' (j:=1) (x:=tF y) (by rw [hbE];rfl)
    rw [Nat.one_mul] at z0 z1 z2
    have Hn:Hid (∀ w',Chg Nob W2 w'→w'.cell? ⟨nk,no+3,none⟩=some (.int .i64 (tF y).kind)∧w'.cell? ⟨nk,no+3+1,none⟩=some (.string ⟨(tF y).name.toArray⟩)∧w'.cell? ⟨nk,no+3+2,none⟩=some (.slice nq (tF y).kids.length nc)∧IsTree R w' (tF y) (.agg #[.int .i64 (tF y).kind,.string ⟨(tF y).name.toArray⟩,.slice nq (tF y).kids.length nc])):=(show ∀ w',Chg Nob W2 w'→_ from fun w' h=>⟨(HcW.out.trans1 h).cell' z0 (fun e=>e),(HcW.out.trans1 h).cell' z1 (fun e=>e),(HcW.out.trans1 h).cell' z2 (fun e=>e),hty.nob (HcW.out.trans1 h)⟩)
    clear z0 z1 z2 hty
    cases el.symm.trans em
    have hrx:=Hrec.out x (.inr haE) y
    have Hrx:=Lib.hid hrx
    have HE:=Lib.hid hE
    subst el en
    clear haE hbE hE hrx em
    obtain ⟨v0,v1,v2,_⟩:=cells_three (Hv2.out _ hcur).1
    have hS0:wc.cell? ⟨w.heap.size,0,none⟩=some (.int .i64 8)∧wc.cell? ⟨p,2,none⟩=some (.slice (some ⟨lk,lo,none⟩) (tF a).kids.length ca)∧wc.cell? ⟨q,2,none⟩=some (.slice (some ⟨nk,no,none⟩) (tF b).kids.length cb)∧wc.cell? ⟨lk,lo,none⟩=some (.int .i64 (tF .ff).kind)∧wc.cell? ⟨lk,lo+1,none⟩=some (.string ⟨(tF .ff).name.toArray⟩)∧wc.cell? ⟨lk,lo+2,none⟩=some (.slice lq (tF .ff).kids.length lc)∧wc.cell? ⟨lk,lo+3,none⟩=some (.int .i64 (tF x).kind)∧wc.cell? ⟨lk,lo+3+1,none⟩=some (.string ⟨(tF x).name.toArray⟩)∧wc.cell? ⟨lk,lo+3+2,none⟩=some (.slice mq (tF x).kids.length mc)∧wc.cell? ⟨nk,no+3,none⟩=some (.int .i64 (tF y).kind)∧wc.cell? ⟨nk,no+3+1,none⟩=some (.string ⟨(tF y).name.toArray⟩)∧wc.cell? ⟨nk,no+3+2,none⟩=some (.slice nq (tF y).kids.length nc):=⟨v0,x2,y2,(Hl.out _ hcur).1,(Hl.out _ hcur).2.1,(Hl.out _ hcur).2.2.1,(Hm.out _ hcur).1,(Hm.out _ hcur).2.1,(Hm.out _ hcur).2.2.1,(Hn.out _ hcur).1,(Hn.out _ hcur).2.1,(Hn.out _ hcur).2.2.1⟩
    have Hcur:=Lib.hid hcur
    clear x0 x1 x2 y0 y1 y2 ta tb hcur v0 v1 v2
    have HlW:Hid (w.heap.size≤wc.heap.size):=(show w.heap.size≤wc.heap.size by have h1:=HcW.out.size;have h2:=Hcur.out.size;omega)
    have HlW2:Hid (w.heap.size+2≤wc.heap.size):=(show w.heap.size+2≤wc.heap.size by have h1:=hcut1.out.size;have h2:=Hcur.out.size;have h3:=Hsz.out;omega)
    have hS9:Hid (∀ w',Chg Nob wc w'→w'.cell? ⟨w.heap.size,0,none⟩=some (.int .i64 8)∧w'.cell? ⟨p,2,none⟩=some (.slice (some ⟨lk,lo,none⟩) (tF a).kids.length ca)∧w'.cell? ⟨q,2,none⟩=some (.slice (some ⟨nk,no,none⟩) (tF b).kids.length cb)∧w'.cell? ⟨lk,lo,none⟩=some (.int .i64 (tF .ff).kind)∧w'.cell? ⟨lk,lo+1,none⟩=some (.string ⟨(tF .ff).name.toArray⟩)∧w'.cell? ⟨lk,lo+2,none⟩=some (.slice lq (tF .ff).kids.length lc)∧w'.cell? ⟨lk,lo+3,none⟩=some (.int .i64 (tF x).kind)∧w'.cell? ⟨lk,lo+3+1,none⟩=some (.string ⟨(tF x).name.toArray⟩)∧w'.cell? ⟨lk,lo+3+2,none⟩=some (.slice mq (tF x).kids.length mc)∧w'.cell? ⟨nk,no+3,none⟩=some (.int .i64 (tF y).kind)∧w'.cell? ⟨nk,no+3+1,none⟩=some (.string ⟨(tF y).name.toArray⟩)∧w'.cell? ⟨nk,no+3+2,none⟩=some (.slice nq (tF y).kids.length nc)):=(show ∀ w',Chg Nob wc w'→_ from fun w' h=>by
     obtain ⟨g0,g1,g2,g3,g4,g5,g6,g7,g8,g9,g10,g11⟩:=hS0
     exact ⟨h.cell' g0 (fun e=>e),h.cell' g1 (fun e=>e),h.cell' g2 (fun e=>e),h.cell' g3 (fun e=>e),h.cell' g4 (fun e=>e),h.cell' g5 (fun e=>e),h.cell' g6 (fun e=>e),h.cell' g7 (fun e=>e),h.cell' g8 (fun e=>e),h.cell' g9 (fun e=>e),h.cell' g10 (fun e=>e),h.cell' g11 (fun e=>e)⟩)
    obtain ⟨g0,g1,g2,g3,g4,g5,g6,g7,g8,g9,g10,g11⟩:=hS9.out wc.drew (Chg.refl _ _).drew
    clear hS0
    go_wp2_with fail
    refine wp_region_free (fun j=>j != 18) (fun w'=>w'.cell? ⟨w.heap.size,0,none⟩=some (.int .i64 8)∧w'.cell? ⟨p,2,none⟩=some (.slice (some ⟨lk,lo,none⟩) (tF a).kids.length ca)∧w'.cell? ⟨q,2,none⟩=some (.slice (some ⟨nk,no,none⟩) (tF b).kids.length cb)∧w'.cell? ⟨lk,lo,none⟩=some (.int .i64 (tF .ff).kind)∧w'.cell? ⟨lk,lo+1,none⟩=some (.string ⟨(tF .ff).name.toArray⟩)∧w'.cell? ⟨lk,lo+2,none⟩=some (.slice lq (tF .ff).kids.length lc)∧w'.cell? ⟨lk,lo+3,none⟩=some (.int .i64 (tF x).kind)∧w'.cell? ⟨lk,lo+3+1,none⟩=some (.string ⟨(tF x).name.toArray⟩)∧w'.cell? ⟨lk,lo+3+2,none⟩=some (.slice mq (tF x).kids.length mc)∧w'.cell? ⟨nk,no+3,none⟩=some (.int .i64 (tF y).kind)∧w'.cell? ⟨nk,no+3+1,none⟩=some (.string ⟨(tF y).name.toArray⟩)∧w'.cell? ⟨nk,no+3+2,none⟩=some (.slice nq (tF y).kids.length nc)) (by kernel_rfl) ⟨g0,g1,g2,g3,g4,g5,g6,g7,g8,g9,g10,g11⟩ (fun hHeld=>?_)
    refine tkG 0 hHeld ?_
    refine tkG 1 hHeld ?_
    refine tkG 2 hHeld ?_
    refine tkG 3 hHeld ?_
    refine tkG 4 hHeld ?_
    refine tkG 5 hHeld ?_
    refine tkG 6 hHeld ?_
    refine tkG 7 hHeld ?_
    refine tkG 8 hHeld ?_
    refine tkG 9 hHeld ?_
    refine tkG 10 hHeld ?_
    refine tkG 11 hHeld ?_
    refine tkG 12 hHeld ?_
    refine tkG 13 hHeld ?_
    refine rdG 14 fun K hK=>?_
    go_simp
    (with_reducible refine (two_any 8 _ _ _ _ _ _ _).mono ?_)
    rintro e w5 ⟨rfl,hc,hn⟩
    have hwd:wc.drew.heap.size=wc.heap.size:=rfl
    rw [hwd] at hn ⊢
    have hc:Chg Nob wc w5:=(Chg.refl Nob wc).drew.trans1 hc
    clear hwd
    have Hc5:Hid (Chg Nob wc w5):=Lib.hid (hc)
    have hsz:=(Array.getElem?_eq_some_iff.1 hn).1
    have hle:=hc.size
    have hl0:=Nat.le_refl wc.heap.size
    have hT:IsTree (NewIn R wc w5) w5 (.node 8 [] [tF x,tF y]) _:=IsTree.two' (k:=8) (IsTree.mono (fun _ _ _ h=>h) (fun _ hb=>Or.inl hb) _ _ (Hm.out w5 (Hcur.out.trans1 Hc5.out)).2.2.2) (IsTree.mono (fun _ _ _ h=>h) (fun _ hb=>Or.inl hb) _ _ (Hn.out w5 (Hcur.out.trans1 Hc5.out)).2.2.2) hn (.inr ⟨by omega,hsz⟩)
    have HT5:=Lib.hid hT
    clear hT hsz hle hl0 hn hc
    have hS5:=hS9.out w5 Hc5.out
    refine hK.out _ _ (fun _=>hS5) ?_
    clear hK K
    try simp only [Act.put]
    refine rdG 15 fun K hK=>?_
    go_simp
    have hp:=Hrx.out _ w5 _ (newin_lt HR.out HlW.out Hc5.out.size) HT5.out
    (with_reducible refine hp.mono ?_)
    clear hp
    rintro e w6 ⟨hc,v6,rfl,hT⟩
    obtain ⟨a6,k6,e6⟩:=hT.agg'
    subst e6
    have Hc6:=Lib.hid (Hc5.out.trans1 hc)
    have HT6:=Lib.hid (IsTree.mono (fun _ _ _ h=>h) (newin_step Hc5.out.size hc.size) _ _ hT)
    clear hT hc
    have hS6:=hS9.out w6 Hc6.out
    refine hK.out _ _ (fun _=>hS6) ?_
    clear hK K
    try simp only [Act.put]
    refine rdG 16 fun K hK=>?_
    go_simp
    (with_reducible refine (two_any 13 _ _ _ _ _ _ _).mono ?_)
    rintro e w7 ⟨rfl,hc,hn⟩
    have Hc7:Hid (Chg Nob wc w7):=Lib.hid (Chg.trans1 Hc6.out hc)
    have hsz:=(Array.getElem?_eq_some_iff.1 hn).1
    have hle:=hc.size
    have hl0:=Hc6.out.size
    have hT:IsTree (NewIn R wc w7) w7 (.node 13 [] [tF .ff,tF (PL.joinedF true x y)]) _:=IsTree.two' (k:=13) (IsTree.mono (fun _ _ _ h=>h) (fun _ hb=>Or.inl hb) _ _ (Hl.out w7 (Hcur.out.trans1 Hc7.out)).2.2.2) (IsTree.mono (fun _ _ _ h=>h) (newin_le hle) _ _ (HT6.out.nob hc)) hn (.inr ⟨by omega,hsz⟩)
    have HT7:=Lib.hid hT
    clear hT hsz hle hl0 hn hc
    have hS7:=hS9.out w7 Hc7.out
    refine hK.out _ _ (fun _=>hS7) ?_
    clear hK K
    try simp only [Act.put]
    refine rdG 17 fun K hK=>?_
    go_simp
    have hp:=releaseP_any .ff (PL.joinedF true x y) _ w7 _ (newin_lt HR.out HlW.out Hc7.out.size) HT7.out
    (with_reducible refine hp.mono ?_)
    clear hp
    rintro e w8 ⟨hc,v6,rfl,hT⟩
    obtain ⟨a8,k8,e6⟩:=hT.agg'
    subst e6
    have Hc8:=Lib.hid (Hc7.out.trans1 hc)
    have HT8:=Lib.hid (IsTree.mono (fun _ _ _ h=>h) (newin_step Hc7.out.size hc.size) _ _ hT)
    clear hT hc
    have hS8:=hS9.out w8 Hc8.out
    refine hK.out _ _ (fun _=>hS8) ?_
    clear hK K
    try simp only [Act.put]
    refine rdG 18 fun K hK=>?_
    have hRb:=(Hv2.out _ (Hcur.out.trans1 Hc8.out)).2
    obtain ⟨r0,r1,r2,f0,f1,f2⟩:=cells_three hRb
    have Hfin:Hid (Chg Nob w _):=((((HcW.out.trans1 Hcur.out).trans1 Hc8.out).any (S:=At1 (w.heap.size+1))).trans1 (chg_three w8 (w.heap.size+1) (.int .i64 (tF (PL.releaseF .ff (PL.joinedF true x y))).kind) (.string ⟨(tF (PL.releaseF .ff (PL.joinedF true x y))).name.toArray⟩) (.slice a8 (tF (PL.releaseF .ff (PL.joinedF true x y))).kids.length k8))).mono (fun i hi e=>by have e:i=w.heap.size+1:=e;omega)
    have HT9:Hid (IsTree _ _ _ _):=fin_store (u0:=(.int .i64 (tF (PL.releaseF .ff (PL.joinedF true x y))).kind)) (u1:=(.string ⟨(tF (PL.releaseF .ff (PL.joinedF true x y))).name.toArray⟩)) (u2:=(.slice a8 (tF (PL.releaseF .ff (PL.joinedF true x y))).kids.length k8)) HR.out HlW2.out HT8.out
    have HR3:=Lib.hid (block_three_all hRb (.int .i64 (tF (PL.releaseF .ff (PL.joinedF true x y))).kind) (.string ⟨(tF (PL.releaseF .ff (PL.joinedF true x y))).name.toArray⟩) (.slice a8 (tF (PL.releaseF .ff (PL.joinedF true x y))).kids.length k8))
    clear hRb
    go_simp
    refine hK.out _ _ (fun h=>absurd h (by decide)) ?_
    clear hK K r0 r1 r2 f0 f1 f2
    try simp only [Act.put]
    refine wpAnyG_done (by kernel_rfl) ?_ _
    go_simp
    go_wp2_with fail
    refine bodyPost_ret (results85 rfl HR3.out) rfl ⟨Hfin.out,_,rfl,?_⟩
    rw [HE.out]
    exact HT9.out
  | false =>
    have hE:=(joined_5 hj1 hj2 hj3 hj4).trans (rest_8 (c:=true) hj5 (fun h=>hj6) (fun h=>by cases h))
    have hRb:=(Hv2.out _ hcur).2
    obtain ⟨r0,r1,r2,f0,f1,f2⟩:=cells_three hRb
    obtain ⟨v0,v1,v2,_⟩:=cells_three (Hv2.out _ hcur).1
    have hfin:Chg Nob w _:=((HcW.out.trans1 hcur).any (S:=At1 (w.heap.size+1))).trans1 (chg_three wc (w.heap.size+1) (.int .i64 8) (.string ⟨#[]⟩) (.slice (some ⟨bk,o,none⟩) 2 cap)) |>.mono (fun i hi e=>by have e:i=w.heap.size+1:=e;omega)
    have Hfin:=Lib.hid hfin
    have HR3:=Lib.hid (block_three_all hRb (.int .i64 8) (.string ⟨#[]⟩) (.slice (some ⟨bk,o,none⟩) 2 cap))
    clear hRb hfin ta tb
    go_wp2_with fail
    refine bodyPost_ret (results85 rfl HR3.out) rfl ⟨Hfin.out,_,rfl,?_⟩
    rw [hE,tF_jn]
    exact IsTree.mono (fun _ _ _ h=>Hfin.out.cell' h (fun e=>e)) (fun _ hb=> .inl hb) _ _ Hv.out
end Go.Proofs.YtkgfdgfhpdhhaaaGreat
