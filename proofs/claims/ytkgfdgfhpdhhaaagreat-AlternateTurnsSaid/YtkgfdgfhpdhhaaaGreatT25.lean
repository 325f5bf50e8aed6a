/- ltl's until: what a plain until is made. Conditions: the formula lies in the world. -/
import Derived.Test.YtkgfdgfhpdhhaaaGreatT24
namespace Go.Proofs.YtkgfdgfhpdhhaaaGreat
open Go.ChangeShapes Go.WideShapes Go.RowKit
open PL (F)
set_option maxRecDepth 100000
set_option maxHeartbeats 8000000
def NewIn (R:Nat→Prop) (w w':World):Nat→Prop:=fun b=>R b∨(w.heap.size≤b∧b < w'.heap.size)
def FPost (R:Nat→Prop) (f:F) (w:World) (e:Ending) (w':World):Prop:=Chg Nob w w'∧∃ v',e = .returned v'∧IsTree (NewIn R w w') w' (tF f) v'
theorem IsTree.ti {R:Nat→Prop} {w:World} {t:T} {v:Value} (h:IsTree R w t v) (hR:∀ b,R b→b < w.heap.size):TI w t v:=IsTree.mono (fun _ _ _ h=>h) hR t v h
theorem IsTree.agg' {R:Nat→Prop} {w:World} {t:T} {v:Value} (h:IsTree R w t v):∃ ao cap,v = .agg #[.int .i64 t.kind,.string ⟨t.name.toArray⟩,.slice ao t.kids.length cap]:=by
 obtain ⟨ao,cap,e,_,_⟩:=h.parts
 exact ⟨ao,cap,e⟩
theorem IsTree.kid' {R:Nat→Prop} {w:World} {t x:T} {ao:Option Addr} {cap j:Nat} {a b:Value} (h:IsTree R w t (.agg #[a,b,.slice ao t.kids.length cap])) (hx:t.kids[j]? = some x) :
 ∃ bk o sx cx,ao=some ⟨bk,o,none⟩∧w.cell? ⟨bk,o+j * 3,none⟩=some (.int .i64 x.kind)∧w.cell? ⟨bk,o+j * 3+1,none⟩=some (.string ⟨x.name.toArray⟩)∧w.cell? ⟨bk,o+j * 3+2,none⟩=some (.slice sx x.kids.length cx) ∧
   IsTree R w x (.agg #[.int .i64 x.kind,.string ⟨x.name.toArray⟩,.slice sx x.kids.length cx]):=by
 obtain ⟨ao',cap',e,_,hk⟩:=h.parts
 simp at e
 obtain ⟨-,-,rfl,rfl⟩:=e
 obtain ⟨bk,o,ak,cx,h1,_,h2,h3,h4,_,_,h5⟩:=hk.kid hx
 exact ⟨bk,o,ak,cx,h1,h2,h3,h4,h5⟩
theorem IsTree.two' {R:Nat→Prop} {w:World} {t u:T} {a b c d e f:Value} {S:Nat} {k:Int} (h:IsTree R w t (.agg #[a,b,c])) (h2:IsTree R w u (.agg #[d,e,f])) (hS:w.heap[S]? = some (.cells #[a,b,c,d,e,f] 24 (0,0))) (hRS:R S):IsTree R w (.node k [] [t,u]) (.agg #[.int .i64 k,.string ⟨#[]⟩,.slice (some ⟨S,0,none⟩) 2 2]):=by
 obtain ⟨ao,cap,e1,_,_⟩:=h.parts
 cases e1
 obtain ⟨ao2,cap2,e2,_,_⟩:=h2.parts
 cases e2
 rw [IsTree]
 refine ⟨_,2,rfl,by simp,IsKids.mk _ _ (fun j x hj=>?_)⟩
 match j,hj with
 | 0,hj =>
   obtain rfl:t=x:=by simpa using hj
   exact ⟨S,0,_,_,_,rfl,hRS,cell_row hS 0 rfl,cell_row hS 1 rfl,cell_row hS 2 rfl,h⟩
 | 1,hj =>
   obtain rfl:u=x:=by simpa using hj
   exact ⟨S,0,_,_,_,rfl,hRS,cell_row hS 3 rfl,cell_row hS 4 rfl,cell_row hS 5 rfl,h2⟩
theorem IsTree.one' {R:Nat→Prop} {w:World} {t:T} {a b c:Value} {S:Nat} {k:Int} (h:IsTree R w t (.agg #[a,b,c])) (hS:w.heap[S]? = some (.cells #[a,b,c] 24 (0,0))) (hRS:R S):IsTree R w (.node k [] [t]) (.agg #[.int .i64 k,.string ⟨#[]⟩,.slice (some ⟨S,0,none⟩) 1 1]):=by
 obtain ⟨ao,cap,e,_,_⟩:=h.parts
 cases e
 rw [IsTree]
 refine ⟨_,1,rfl,by simp,IsKids.mk _ _ (fun j u hj=>?_)⟩
 match j,hj with
 | 0,hj =>
   obtain rfl:t=u:=by simpa using hj
   obtain ⟨c0,c1,c2,_⟩:=cells_three hS
   exact ⟨S,0,_,_,_,rfl,hRS,c0,c1,c2,h⟩
theorem kF_un {b:F} (h:(tF b).kind=12):∃ x y,b = .un x y:=by
 cases b <;> first | exact ⟨_,_,rfl⟩ | (simp [tF,T.kind] at h)
theorem kF_re {b:F} (h:(tF b).kind=13):∃ x y,b = .re x y:=by
 cases b <;> first | exact ⟨_,_,rfl⟩ | (simp [tF,T.kind] at h)
theorem kF_tt {b:F}:(tF b).kind=1↔b = .tt:=by
 cases b <;> simp [tF,T.kind]
theorem kF_ff {b:F}:(tF b).kind=2↔b = .ff:=by
 cases b <;> simp [tF,T.kind]
theorem kinB_un {b:F}:kinB (tF b) 12 1=true↔∃ y,b = .un .tt y:=by
 unfold kinB
 rw [Bool.and_eq_true,beq_iff_eq,beq_iff_eq]
 constructor
 ·rintro ⟨h1,h2⟩
  obtain ⟨x,y,rfl⟩:=kF_un h1
  exact ⟨y,by rw [kF_tt.1 (show (tF x).kind=1 from h2)]⟩
 ·rintro ⟨y,rfl⟩;exact ⟨rfl,rfl⟩
theorem kinB_re {b:F}:kinB (tF b) 13 2=true↔∃ y,b = .re .ff y:=by
 unfold kinB
 rw [Bool.and_eq_true,beq_iff_eq,beq_iff_eq]
 constructor
 ·rintro ⟨h1,h2⟩
  obtain ⟨x,y,rfl⟩:=kF_re h1
  exact ⟨y,by rw [kF_ff.1 (show (tF x).kind=2 from h2)]⟩
 ·rintro ⟨y,rfl⟩;exact ⟨rfl,rfl⟩
def kid2 (t:T):T:=t.kids.getD 1 t
def u1 (a b:F):Bool:=((tF b).kind==1) || ((tF b).kind==2) || ((tF a).kind==2) || sameT (tF a) (tF b)
def u2 (a b:F):Bool:=((tF a).kind==1)&&kinB (tF b) 12 1
def u3 (a b:F):Bool:=((tF a).kind==1)&&kinB (tF b) 13 2&&kinB (kid2 (tF b)) 12 1
def u4 (a b:F):Bool:=((tF a).kind==1)&&((tF b).kind==12)
theorem u1_iff {a b:F}:u1 a b=true↔(b = .tt∨b = .ff∨a = .ff∨a=b):=by
 unfold u1
 rw [Bool.or_eq_true,Bool.or_eq_true,Bool.or_eq_true,beq_iff_eq,beq_iff_eq,beq_iff_eq,kF_tt,kF_ff,kF_ff,sameT_tF,decide_eq_true_iff,or_assoc,or_assoc]
theorem until_1 {a b:F} (h:u1 a b=true):PL.untilF a b=b:=by
 rw [u1_iff] at h
 cases b with
 | un x y =>
   rw [PL.untilF,if_pos]
   rcases h with h | h | h | h
   ·cases h
   ·cases h
   ·exact .inl h
   ·exact .inr h
 | _ =>
   rw [PL.untilF,if_pos h]
   intro _ _ e;cases e
theorem until_2 {a b:F} (h:u2 a b=true) (h1:u1 a b=false):PL.untilF a b=b:=by
 unfold u2 at h
 rw [Bool.and_eq_true,beq_iff_eq,kF_tt,kinB_un] at h
 obtain ⟨rfl,y,rfl⟩:=h
 rw [Bool.eq_false_iff,Ne,u1_iff] at h1
 rw [PL.untilF,if_neg (fun e=>h1 (.inr (.inr e))),if_pos rfl,if_pos rfl]
theorem until_3 {a b:F} (h:u3 a b=true) (h1:u1 a b=false):PL.untilF a b=b:=by
 unfold u3 at h
 rw [Bool.and_eq_true,Bool.and_eq_true,beq_iff_eq,kF_tt,kinB_re] at h
 obtain ⟨⟨rfl,y,rfl⟩,h3⟩:=h
 have h3:kinB (tF y) 12 1=true:=h3
 rw [kinB_un] at h3
 obtain ⟨z,rfl⟩:=h3
 rw [Bool.eq_false_iff,Ne,u1_iff] at h1
 rw [PL.untilF,if_neg h1,if_pos ⟨rfl,rfl⟩]
 intro _ _ e;cases e
theorem until_4 {a b:F} (h:u4 a b=true) (h1:u1 a b=false) (h2:u2 a b=false):∃ x y,a = .tt∧b = .un x y∧PL.untilF a b=PL.untilF .tt y:=by
 unfold u4 at h
 rw [Bool.and_eq_true,beq_iff_eq,beq_iff_eq,kF_tt] at h
 obtain ⟨rfl,hb⟩:=h
 obtain ⟨x,y,rfl⟩:=kF_un hb
 refine ⟨x,y,rfl,rfl,?_⟩
 rw [Bool.eq_false_iff,Ne,u1_iff] at h1
 rw [PL.untilF,if_neg (fun e=>h1 (.inr (.inr e))),if_pos rfl,if_neg]
 rintro rfl
 unfold u2 at h2
 rw [kinB_un.2 ⟨y,rfl⟩] at h2
 cases h2
theorem until_5 {a b:F} (h1:u1 a b=false) (h2:u2 a b=false) (h3:u3 a b=false) (h4:u4 a b=false):PL.untilF a b = .un a b:=by
 rw [Bool.eq_false_iff,Ne,u1_iff] at h1
 cases b with
 | un x y =>
   rw [PL.untilF,if_neg (fun e=>h1 (.inr (.inr e))),if_neg]
   rintro rfl
   cases h4
 | _ =>
   rw [PL.untilF,if_neg h1,if_neg]
   ·rintro ⟨rfl,hf⟩
    unfold PL.fgf at hf
    split at hf
    ·rename_i e
     first
     | exact absurd h3 (by show ¬ (true=false);decide)
     | (cases e;exact absurd h3 (by show ¬ (true=false);decide))
     | (cases e;done)
    ·cases hf
   ·intro _ _ e;cases e
theorem kids_ne {f:F} (h:(tF f).kind=12∨(tF f).kind=13):(tF f).kids≠[]:=by
 rcases h with h | h
 ·obtain ⟨x,y,rfl⟩:=kF_un h
  intro e;cases e
 ·obtain ⟨x,y,rfl⟩:=kF_re h
  intro e;cases e
theorem results88 {rb:Nat} {tm:Array Value} {w:World} {x y z:Value} (h2:tm[2]? = some (.pointer (some ⟨rb,0,none⟩))) (hb:w.heap[rb]? = some (.cells #[x,y,z] 24 (0,0))):(results Tryz.f88 tm).run Tryz.prog w = .ok (.agg #[x,y,z]) w:=by
 obtain ⟨c0,c1,c2,_⟩:=cells_three hb
 simp [results,Tryz.results88,go_sem,h2,c0,c1,c2]
theorem box_two' (w:World) (a b c:Value):∃ X,X=(w.alloc (.cells #[a,b,c] 24)).alloc (.cells #[.int .i64 0,.string ⟨#[]⟩,.slice none 0 0] 24)∧Chg Nob w X∧X.heap[w.heap.size]? = some (.cells #[a,b,c] 24 (0,0))∧X.heap[w.heap.size+1]? = some (.cells #[.int .i64 0,.string ⟨#[]⟩,.slice none 0 0] 24 (0,0))∧X.heap.size=w.heap.size+2:=by
 refine ⟨_,rfl,((Chg.refl _ _).alloc _).alloc _,((Chg.refl Nob _).alloc _).at (heap_alloc_new w _) (fun e=>e),?_,by simp⟩
 have:=heap_alloc_new (w.alloc (.cells #[a,b,c] 24)) (.cells #[.int .i64 0,.string ⟨#[]⟩,.slice none 0 0] 24)
 rwa [World.size_alloc] at this
theorem until_step {R:Nat→Prop} {a b:F} {v:Value} {w:World} (hR:∀ b,R b→b < w.heap.size) (hv:IsTree R w (.node 12 [] [tF a,tF b]) v)
 (hrec:∀ x y,b = .un x y→∀ R' w' v',(∀ b,R' b→b < w'.heap.size)→IsTree R' w' (.node 12 [] [tF .tt,tF y]) v'→Calls Tryz.prog 88 #[v'] w' (FPost R' (PL.untilF .tt y) w')) :
 Calls Tryz.prog 88 #[v] w (FPost R (PL.untilF a b) w):=by
 obtain ⟨ao,cap,e0⟩:=hv.agg'
 have e1:v = .agg #[.int .i64 12,.string ⟨#[]⟩,.slice ao 2 cap]:=e0
 clear e0
 subst e1
 obtain ⟨bk,o,sa,ca,rfl,x0,x1,x2,ha⟩:=hv.kid' (j:=0) (x:=tF a) rfl
 obtain ⟨bk',o',sb,cb,e,y0,y1,y2,hb⟩:=hv.kid' (j:=1) (x:=tF b) rfl
 cases e
 obtain ⟨W1,hW1e,hW1,hbv,hbr,hsz⟩:=box_two' w (.int .i64 12) (.string ⟨#[]⟩) (.slice (some ⟨bk,o,none⟩) 2 cap)
 rw [Nat.zero_mul,Nat.add_zero] at x0 x1 x2
 rw [Nat.one_mul] at y0 y1 y2
 have Hv:=Lib.hid hv
 have HR:=Lib.hid hR
 have Ha:=Lib.hid ha
 have Hb:=Lib.hid hb
 have HW1:=Lib.hid hW1
 have Hbv:=Lib.hid hbv
 have Hbr:=Lib.hid hbr
 have Hsz:=Lib.hid hsz
 have Hrec:=Lib.hid hrec
 have x0':=hW1.cell' x0 (fun e=>e)
 have x1':=hW1.cell' x1 (fun e=>e)
 have x2':=hW1.cell' x2 (fun e=>e)
 have y0':=hW1.cell' y0 (fun e=>e)
 have y1':=hW1.cell' y1 (fun e=>e)
 have y2':=hW1.cell' y2 (fun e=>e)
 have v2':=cell_row hbv 2 (v:= .slice (some ⟨bk,o,none⟩) 2 cap) rfl
 have hx:∀ w',Chg Nob W1 w'→w'.cell? ⟨bk,o,none⟩=some (.int .i64 (tF a).kind)∧w'.cell? ⟨bk,o+1,none⟩=some (.string ⟨(tF a).name.toArray⟩)∧w'.cell? ⟨bk,o+2,none⟩=some (.slice sa (tF a).kids.length ca) ∧
  w'.cell? ⟨bk,o+3,none⟩=some (.int .i64 (tF b).kind)∧w'.cell? ⟨bk,o+3+1,none⟩=some (.string ⟨(tF b).name.toArray⟩)∧w'.cell? ⟨bk,o+3+2,none⟩=some (.slice sb (tF b).kids.length cb)∧w'.cell? ⟨w.heap.size,2,none⟩=some (.slice (some ⟨bk,o,none⟩) 2 cap):=fun w' h =>
  ⟨h.cell' x0' (fun e=>e),h.cell' x1' (fun e=>e),h.cell' x2' (fun e=>e),h.cell' y0' (fun e=>e),h.cell' y1' (fun e=>e),h.cell' y2' (fun e=>e),h.cell' v2' (fun e=>e)⟩
 have hA:Chg Nob W1 (W1.alloc (.cells #[.int .i64 0,.string ⟨#[]⟩,.slice none 0 0] 24)):=(Chg.refl _ _).alloc _
 obtain ⟨p0,p1,p2,p3,p4,p5,p6⟩:=hx W1.drew (Chg.refl _ _).drew
 have hSx:=Lib.hid hx
 clear hR hv ha hb hbv hbr hsz hrec x0 x1 x2 y0 y1 y2 hW1 hx hA x0' x1' x2' y0' y1' y2' v2'
 go_enter Tryz.func88,Tryz.ntmps88
 go_upto_region 1 with fail
 rw [← hW1e]
 clear hW1e
 go_cut [3,4] from 5 to 12 (fun t3 t4 wx=>∃ p q:Nat,t3 = .pointer (some ⟨p,0,none⟩)∧t4 = .pointer (some ⟨q,0,none⟩)∧Hid (Chg Nob W1 wx∧wx.heap[p]? = some (.cells #[.int .i64 (tF a).kind,.string ⟨(tF a).name.toArray⟩,.slice sa (tF a).kids.length ca] 24 (0,0))∧wx.heap[q]? = some (.cells #[.int .i64 (tF b).kind,.string ⟨(tF b).name.toArray⟩,.slice sb (tF b).kids.length cb] 24 (0,0))))
 case first =>
  go_wp2_with fail
  refine wp_region_free (fun j=>j != 11) (fun w'=>w'.cell? ⟨bk,o,none⟩=some (.int .i64 (tF a).kind)∧w'.cell? ⟨bk,o+1,none⟩=some (.string ⟨(tF a).name.toArray⟩)∧w'.cell? ⟨bk,o+2,none⟩=some (.slice sa (tF a).kids.length ca)∧w'.cell? ⟨bk,o+3,none⟩=some (.int .i64 (tF b).kind)∧w'.cell? ⟨bk,o+3+1,none⟩=some (.string ⟨(tF b).name.toArray⟩)∧w'.cell? ⟨bk,o+3+2,none⟩=some (.slice sb (tF b).kids.length cb)∧w'.cell? ⟨w.heap.size,2,none⟩=some (.slice (some ⟨bk,o,none⟩) 2 cap)) (by kernel_rfl) ⟨p0,p1,p2,p3,p4,p5,p6⟩ (fun hHeld=>?_)
  refine tkG 0 hHeld ?_
  refine tkG 1 hHeld ?_
  refine tkG 2 hHeld ?_
  refine tkG 3 hHeld ?_
  refine tkG 4 hHeld ?_
  refine tkG 5 hHeld ?_
  refine tkG 6 hHeld ?_
  refine tkG 7 hHeld ?_
  refine wpAnyG_ready (rs:=[8,9]) (by kernel_rfl) (by simp) ?_
  refine AllReadyG.cons rfl (fun K hK=>?_) (AllReadyG.cons rfl (fun K hK=>?_) AllReadyG.nil)
  ·rw [if_pos (by kernel_rfl)]
   have hS1:=hSx.out ((W1.alloc (.cells #[.int .i64 0,.string ⟨#[]⟩,.slice none 0 0] 24)).drew) (((Chg.refl _ _).alloc _).drew)
   go_simp
   refine hK.out _ _ (fun _=>hS1) ?_
   clear hK K
   try simp only [Act.put]
   refine rdG 9 fun K hK=>?_
   have hS2:=hSx.out (((W1.alloc (.cells #[.int .i64 0,.string ⟨#[]⟩,.slice none 0 0] 24)).alloc (.cells #[.int .i64 0,.string ⟨#[]⟩,.slice none 0 0] 24)).drew) ((((Chg.refl _ _).alloc _).alloc _).drew)
   go_simp
   refine hK.out _ _ (fun _=>hS2) ?_
   clear hK K
   try simp only [Act.put]
   refine rdG 10 fun K hK=>?_
   have hS3:=hSx.out (((W1.alloc (.cells #[(.int .i64 (tF a).kind),(.string ⟨(tF a).name.toArray⟩),(.slice sa (tF a).kids.length ca)] 24)).alloc (.cells #[.int .i64 0,.string ⟨#[]⟩,.slice none 0 0] 24)).drew) ((((Chg.refl _ _).alloc _).alloc _).drew)
   go_simp
   refine hK.out _ _ (fun _=>hS3) ?_
   clear hK K
   try simp only [Act.put]
   refine rdG 11 fun K hK=>?_
   go_simp
   refine hK.out _ _ (fun h=>absurd h (by decide)) ?_
   clear hK K
   try simp only [Act.put]
   refine wpAnyG_done (by kernel_rfl) ?_ _
   go_simp
   have h0:Chg Nob W1 ((W1.alloc (.cells #[(.int .i64 (tF a).kind),(.string ⟨(tF a).name.toArray⟩),(.slice sa (tF a).kids.length ca)] 24)).alloc (.cells #[(.int .i64 (tF b).kind),(.string ⟨(tF b).name.toArray⟩),(.slice sb (tF b).kids.length cb)] 24)).drew:=(((Chg.refl _ _).alloc _).alloc _).drew
   have h1:((W1.alloc (.cells #[(.int .i64 (tF a).kind),(.string ⟨(tF a).name.toArray⟩),(.slice sa (tF a).kids.length ca)] 24)).alloc (.cells #[(.int .i64 (tF b).kind),(.string ⟨(tF b).name.toArray⟩),(.slice sb (tF b).kids.length cb)] 24)).drew.heap[W1.heap.size]? = some (.cells #[(.int .i64 (tF a).kind),(.string ⟨(tF a).name.toArray⟩),(.slice sa (tF a).kids.length ca)] 24 (0,0)):=((Chg.refl Nob _).alloc (.cells #[(.int .i64 (tF b).kind),(.string ⟨(tF b).name.toArray⟩),(.slice sb (tF b).kids.length cb)] 24)).at (heap_alloc_new W1 (.cells #[(.int .i64 (tF a).kind),(.string ⟨(tF a).name.toArray⟩),(.slice sa (tF a).kids.length ca)] 24)) (fun e=>e)
   have h2:((W1.alloc (.cells #[(.int .i64 (tF a).kind),(.string ⟨(tF a).name.toArray⟩),(.slice sa (tF a).kids.length ca)] 24)).alloc (.cells #[(.int .i64 (tF b).kind),(.string ⟨(tF b).name.toArray⟩),(.slice sb (tF b).kids.length cb)] 24)).drew.heap[W1.heap.size+1]? = some (.cells #[(.int .i64 (tF b).kind),(.string ⟨(tF b).name.toArray⟩),(.slice sb (tF b).kids.length cb)] 24 (0,0)):=by
    have h:=heap_alloc_new (W1.alloc (.cells #[(.int .i64 (tF a).kind),(.string ⟨(tF a).name.toArray⟩),(.slice sa (tF a).kids.length ca)] 24)) (.cells #[(.int .i64 (tF b).kind),(.string ⟨(tF b).name.toArray⟩),(.slice sb (tF b).kids.length cb)] 24)
    rwa [World.size_alloc] at h
   go_wp2_with fail
   go_meet
   case rel=>exact ⟨W1.heap.size,W1.heap.size+1,rfl,rfl,h0,h1,h2⟩
  ·rw [if_pos (by kernel_rfl)]
   have hS1:=hSx.out ((W1.alloc (.cells #[.int .i64 0,.string ⟨#[]⟩,.slice none 0 0] 24)).drew) (((Chg.refl _ _).alloc _).drew)
   go_simp
   refine hK.out _ _ (fun _=>hS1) ?_
   clear hK K
   try simp only [Act.put]
   refine rdG 8 fun K hK=>?_
   have hS2:=hSx.out (((W1.alloc (.cells #[.int .i64 0,.string ⟨#[]⟩,.slice none 0 0] 24)).alloc (.cells #[.int .i64 0,.string ⟨#[]⟩,.slice none 0 0] 24)).drew) ((((Chg.refl _ _).alloc _).alloc _).drew)
   go_simp
   refine hK.out _ _ (fun _=>hS2) ?_
   clear hK K
   try simp only [Act.put]
   refine rdG 10 fun K hK=>?_
   have hS3:=hSx.out (((W1.alloc (.cells #[.int .i64 0,.string ⟨#[]⟩,.slice none 0 0] 24)).alloc (.cells #[(.int .i64 (tF a).kind),(.string ⟨(tF a).name.toArray⟩),(.slice sa (tF a).kids.length ca)] 24)).drew) ((((Chg.refl _ _).alloc _).alloc _).drew)
   go_simp
   refine hK.out _ _ (fun _=>hS3) ?_
   clear hK K
   try simp only [Act.put]
   refine rdG 11 fun K hK=>?_
   go_simp
   refine hK.out _ _ (fun h=>absurd h (by decide)) ?_
   clear hK K
   try simp only [Act.put]
   refine wpAnyG_done (by kernel_rfl) ?_ _
   go_simp
   have h0:Chg Nob W1 ((W1.alloc (.cells #[(.int .i64 (tF b).kind),(.string ⟨(tF b).name.toArray⟩),(.slice sb (tF b).kids.length cb)] 24)).alloc (.cells #[(.int .i64 (tF a).kind),(.string ⟨(tF a).name.toArray⟩),(.slice sa (tF a).kids.length ca)] 24)).drew:=(((Chg.refl _ _).alloc _).alloc _).drew
   have h1:((W1.alloc (.cells #[(.int .i64 (tF b).kind),(.string ⟨(tF b).name.toArray⟩),(.slice sb (tF b).kids.length cb)] 24)).alloc (.cells #[(.int .i64 (tF a).kind),(.string ⟨(tF a).name.toArray⟩),(.slice sa (tF a).kids.length ca)] 24)).drew.heap[W1.heap.size]? = some (.cells #[(.int .i64 (tF b).kind),(.string ⟨(tF b).name.toArray⟩),(.slice sb (tF b).kids.length cb)] 24 (0,0)):=((Chg.refl Nob _).alloc (.cells #[(.int .i64 (tF a).kind),(.string ⟨(tF a).name.toArray⟩),(.slice sa (tF a).kids.length ca)] 24)).at (heap_alloc_new W1 (.cells #[(.int .i64 (tF b).kind),(.string ⟨(tF b).name.toArray⟩),(.slice sb (tF b).kids.length cb)] 24)) (fun e=>e)
   have h2:((W1.alloc (.cells #[(.int .i64 (tF b).kind),(.string ⟨(tF b).name.toArray⟩),(.slice sb (tF b).kids.length cb)] 24)).alloc (.cells #[(.int .i64 (tF a).kind),(.string ⟨(tF a).name.toArray⟩),(.slice sa (tF a).kids.length ca)] 24)).drew.heap[W1.heap.size+1]? = some (.cells #[(.int .i64 (tF a).kind),(.string ⟨(tF a).name.toArray⟩),(.slice sa (tF a).kids.length ca)] 24 (0,0)):=by
    have h:=heap_alloc_new (W1.alloc (.cells #[(.int .i64 (tF b).kind),(.string ⟨(tF b).name.toArray⟩),(.slice sb (tF b).kids.length cb)] 24)) (.cells #[(.int .i64 (tF a).kind),(.string ⟨(tF a).name.toArray⟩),(.slice sa (tF a).kids.length ca)] 24)
    rwa [World.size_alloc] at h
   go_wp2_with fail
   go_meet
   case rel=>exact ⟨W1.heap.size+1,W1.heap.size,rfl,rfl,h0,h2,h1⟩
 case rest =>
  obtain ⟨p,q,rfl,rfl,hcut2⟩:=hcut
  obtain ⟨W2,hW2⟩:∃ X,X=wc:=⟨_,rfl⟩
  subst hW2
  have hcb:=hcut2.out.1
  have hcut1:=Lib.hid hcb
  have hpb:=hcut2.out.2.1
  have hqb:=hcut2.out.2.2
  have HcW:Hid (Chg Nob w W2):=Lib.hid (HW1.out.trans1 hcb)
  have Hv2:Hid (∀ w',Chg Nob W2 w'→w'.heap[w.heap.size]? = some (.cells #[.int .i64 12,.string ⟨#[]⟩,.slice (some ⟨bk,o,none⟩) 2 cap] 24 (0,0))∧w'.heap[w.heap.size+1]? = some (.cells #[.int .i64 0,.string ⟨#[]⟩,.slice none 0 0] 24 (0,0))) :=
   (show ∀ w',Chg Nob W2 w'→_ from fun w' h=>⟨(hcb.trans1 h).at Hbv.out (fun e=>e),(hcb.trans1 h).at Hbr.out (fun e=>e)⟩)
  have HS:Hid (∀ w',Chg Nob W2 w'→w'.cell? ⟨p,0,none⟩=some (.int .i64 (tF a).kind)∧w'.cell? ⟨p,1,none⟩=some (.string ⟨(tF a).name.toArray⟩)∧w'.cell? ⟨p,2,none⟩=some (.slice sa (tF a).kids.length ca) ∧
   w'.cell? ⟨q,0,none⟩=some (.int .i64 (tF b).kind)∧w'.cell? ⟨q,1,none⟩=some (.string ⟨(tF b).name.toArray⟩)∧w'.cell? ⟨q,2,none⟩=some (.slice sb (tF b).kids.length cb) ∧
   TI w' (tF a) (.agg #[.int .i64 (tF a).kind,.string ⟨(tF a).name.toArray⟩,.slice sa (tF a).kids.length ca])∧TI w' (tF b) (.agg #[.int .i64 (tF b).kind,.string ⟨(tF b).name.toArray⟩,.slice sb (tF b).kids.length cb])) :=
   (show ∀ w',Chg Nob W2 w'→_ from fun w' h=>by
    obtain ⟨a0,a1,a2,_⟩:=cells_three (h.at hpb (fun e=>e))
    obtain ⟨b0,b1,b2,_⟩:=cells_three (h.at hqb (fun e=>e))
    exact ⟨a0,a1,a2,b0,b1,b2,(Ha.out.ti HR.out).nob (HcW.out.trans1 h),(Hb.out.ti HR.out).nob (HcW.out.trans1 h)⟩)
  have hcur:=Chg.refl Nob W2
  obtain ⟨x0,x1,x2,y0,y1,y2,ta,tb⟩:=HS.out _ hcur
  clear hcut2 hcb hpb hqb hSx p0 p1 p2 p3 p4 p5 p6
  go_upto_region 2 with fail
  go_cut [13] from 14 to 28 (fun t13 wx=>t13 = .bool (u1 a b)∧Hid (Chg Nob W2 wx))
  case first =>
   cases h1:((tF b).kind==1) with
   | true =>
     go_wp2_with (first | (go_at_call 86;(with_reducible refine (truth_any tb).mono ?_);rintro e w' ⟨rfl,hc'⟩;replace hcur:=hcur.trans1 hc';clear hc' x0 x1 x2 y0 y1 y2 ta tb;obtain ⟨x0,x1,x2,y0,y1,y2,ta,tb⟩:=HS.out _ hcur) | (go_at_call 87;(with_reducible refine (falsity_any tb).mono ?_);rintro e w' ⟨rfl,hc'⟩;replace hcur:=hcur.trans1 hc';clear hc' x0 x1 x2 y0 y1 y2 ta tb;obtain ⟨x0,x1,x2,y0,y1,y2,ta,tb⟩:=HS.out _ hcur) | (go_at_call 87;(with_reducible refine (falsity_any ta).mono ?_);rintro e w' ⟨rfl,hc'⟩;replace hcur:=hcur.trans1 hc';clear hc' x0 x1 x2 y0 y1 y2 ta tb;obtain ⟨x0,x1,x2,y0,y1,y2,ta,tb⟩:=HS.out _ hcur) | (go_at_call 138;(with_reducible refine (same_ti ta tb).mono ?_);rintro e w' ⟨rfl,hc'⟩;replace hcur:=hcur.trans1 hc';clear hc' x0 x1 x2 y0 y1 y2 ta tb;obtain ⟨x0,x1,x2,y0,y1,y2,ta,tb⟩:=HS.out _ hcur))
     go_meet
     case rel=>exact ⟨congrArg Value.bool (by unfold u1;rw [h1];rfl),hcur⟩
   | false =>
     cases h2:((tF b).kind==2) with
     | true =>
       go_wp2_with (first | (go_at_call 86;(with_reducible refine (truth_any tb).mono ?_);rintro e w' ⟨rfl,hc'⟩;replace hcur:=hcur.trans1 hc';clear hc' x0 x1 x2 y0 y1 y2 ta tb;obtain ⟨x0,x1,x2,y0,y1,y2,ta,tb⟩:=HS.out _ hcur) | (go_at_call 87;(with_reducible refine (falsity_any tb).mono ?_);rintro e w' ⟨rfl,hc'⟩;replace hcur:=hcur.trans1 hc';clear hc' x0 x1 x2 y0 y1 y2 ta tb;obtain ⟨x0,x1,x2,y0,y1,y2,ta,tb⟩:=HS.out _ hcur) | (go_at_call 87;(with_reducible refine (falsity_any ta).mono ?_);rintro e w' ⟨rfl,hc'⟩;replace hcur:=hcur.trans1 hc';clear hc' x0 x1 x2 y0 y1 y2 ta tb;obtain ⟨x0,x1,x2,y0,y1,y2,ta,tb⟩:=HS.out _ hcur) | (go_at_call 138;(with_reducible refine (same_ti ta tb).mono ?_);rintro e w' ⟨rfl,hc'⟩;replace hcur:=hcur.trans1 hc';clear hc' x0 x1 x2 y0 y1 y2 ta tb;obtain ⟨x0,x1,x2,y0,y1,y2,ta,tb⟩:=HS.out _ hcur))
       go_meet
       case rel=>exact ⟨congrArg Value.bool (by unfold u1;rw [h1,h2];rfl),hcur⟩
     | false =>
       cases h3:((tF a).kind==2) with
       | true =>
         go_wp2_with (first | (go_at_call 86;(with_reducible refine (truth_any tb).mono ?_);rintro e w' ⟨rfl,hc'⟩;replace hcur:=hcur.trans1 hc';clear hc' x0 x1 x2 y0 y1 y2 ta tb;obtain ⟨x0,x1,x2,y0,y1,y2,ta,tb⟩:=HS.out _ hcur) | (go_at_call 87;(with_reducible refine (falsity_any tb).mono ?_);rintro e w' ⟨rfl,hc'⟩;replace hcur:=hcur.trans1 hc';clear hc' x0 x1 x2 y0 y1 y2 ta tb;obtain ⟨x0,x1,x2,y0,y1,y2,ta,tb⟩:=HS.out _ hcur) | (go_at_call 87;(with_reducible refine (falsity_any ta).mono ?_);rintro e w' ⟨rfl,hc'⟩;replace hcur:=hcur.trans1 hc';clear hc' x0 x1 x2 y0 y1 y2 ta tb;obtain ⟨x0,x1,x2,y0,y1,y2,ta,tb⟩:=HS.out _ hcur) | (go_at_call 138;(with_reducible refine (same_ti ta tb).mono ?_);rintro e w' ⟨rfl,hc'⟩;replace hcur:=hcur.trans1 hc';clear hc' x0 x1 x2 y0 y1 y2 ta tb;obtain ⟨x0,x1,x2,y0,y1,y2,ta,tb⟩:=HS.out _ hcur))
         go_meet
         case rel=>exact ⟨congrArg Value.bool (by unfold u1;rw [h1,h2,h3];rfl),hcur⟩
       | false =>
         go_wp2_with (first | (go_at_call 86;(with_reducible refine (truth_any tb).mono ?_);rintro e w' ⟨rfl,hc'⟩;replace hcur:=hcur.trans1 hc';clear hc' x0 x1 x2 y0 y1 y2 ta tb;obtain ⟨x0,x1,x2,y0,y1,y2,ta,tb⟩:=HS.out _ hcur) | (go_at_call 87;(with_reducible refine (falsity_any tb).mono ?_);rintro e w' ⟨rfl,hc'⟩;replace hcur:=hcur.trans1 hc';clear hc' x0 x1 x2 y0 y1 y2 ta tb;obtain ⟨x0,x1,x2,y0,y1,y2,ta,tb⟩:=HS.out _ hcur) | (go_at_call 87;(with_reducible refine (falsity_any ta).mono ?_);rintro e w' ⟨rfl,hc'⟩;replace hcur:=hcur.trans1 hc';clear hc' x0 x1 x2 y0 y1 y2 ta tb;obtain ⟨x0,x1,x2,y0,y1,y2,ta,tb⟩:=HS.out _ hcur) | (go_at_call 138;(with_reducible refine (same_ti ta tb).mono ?_);rintro e w' ⟨rfl,hc'⟩;replace hcur:=hcur.trans1 hc';clear hc' x0 x1 x2 y0 y1 y2 ta tb;obtain ⟨x0,x1,x2,y0,y1,y2,ta,tb⟩:=HS.out _ hcur))
         go_meet
         case rel=>exact ⟨congrArg Value.bool (by unfold u1;rw [h1,h2,h3];rfl),hcur⟩
  case rest =>
  obtain ⟨rfl,hcw⟩:=hcut
  replace hcur:=hcw.out
  clear hcw x0 x1 x2 y0 y1 y2 ta tb
  obtain ⟨x0,x1,x2,y0,y1,y2,ta,tb⟩:=HS.out _ hcur
  cases hu1:u1 a b with
  | true =>
    have hRb:=(Hv2.out _ hcur).2
    obtain ⟨r0,r1,r2,f0,f1,f2⟩:=cells_three hRb
    have hfin:Chg Nob w _:=((HcW.out.trans1 hcur).any (S:=At1 (w.heap.size+1))).trans1 (chg_three wc (w.heap.size+1) (.int .i64 (tF b).kind) (.string ⟨(tF b).name.toArray⟩) (.slice sb (tF b).kids.length cb)) |>.mono (fun i hi e=>by have e:i=w.heap.size+1:=e;omega)
    have Hfin:=Lib.hid hfin
    have HR3:=Lib.hid (block_three_all hRb (.int .i64 (tF b).kind) (.string ⟨(tF b).name.toArray⟩) (.slice sb (tF b).kids.length cb))
    clear hRb hfin ta tb
    go_wp2_with fail
    refine bodyPost_ret (results88 rfl HR3.out) rfl ⟨Hfin.out,_,rfl,?_⟩
    rw [until_1 hu1]
    exact IsTree.mono (fun _ _ _ h=>Hfin.out.cell' h (fun e=>e)) (fun _ hb=> .inl hb) _ _ Hb.out
  | false =>
  go_upto_region 4 with fail
  go_cut [30] from 31 to 36 (fun t30 wx=>t30 = .bool (u2 a b)∧Hid (Chg Nob W2 wx))
  case first =>
   cases h1:((tF a).kind==1) with
   | true =>
     go_wp2_with (first | (go_at_call 86;(with_reducible refine (truth_any ta).mono ?_);rintro e w' ⟨rfl,hc'⟩;replace hcur:=hcur.trans1 hc';clear hc' x0 x1 x2 y0 y1 y2 ta tb;obtain ⟨x0,x1,x2,y0,y1,y2,ta,tb⟩:=HS.out _ hcur) | (go_at_call 141;(with_reducible refine (kin_any (.inl ⟨rfl,rfl⟩) tb (fun h=>kids_ne (.inl h))).mono ?_);rintro e w' ⟨rfl,hc'⟩;replace hcur:=hcur.trans1 hc';clear hc' x0 x1 x2 y0 y1 y2 ta tb;obtain ⟨x0,x1,x2,y0,y1,y2,ta,tb⟩:=HS.out _ hcur))
     go_meet
     case rel=>exact ⟨congrArg Value.bool (by unfold u2;rw [h1];rfl),hcur⟩
   | false =>
     go_wp2_with (first | (go_at_call 86;(with_reducible refine (truth_any ta).mono ?_);rintro e w' ⟨rfl,hc'⟩;replace hcur:=hcur.trans1 hc';clear hc' x0 x1 x2 y0 y1 y2 ta tb;obtain ⟨x0,x1,x2,y0,y1,y2,ta,tb⟩:=HS.out _ hcur) | (go_at_call 141;(with_reducible refine (kin_any (.inl ⟨rfl,rfl⟩) tb (fun h=>kids_ne (.inl h))).mono ?_);rintro e w' ⟨rfl,hc'⟩;replace hcur:=hcur.trans1 hc';clear hc' x0 x1 x2 y0 y1 y2 ta tb;obtain ⟨x0,x1,x2,y0,y1,y2,ta,tb⟩:=HS.out _ hcur))
     go_meet
     case rel=>exact ⟨congrArg Value.bool (by unfold u2;rw [h1];rfl),hcur⟩
  case rest =>
  obtain ⟨rfl,hcw⟩:=hcut
  replace hcur:=hcw.out
  clear hcw x0 x1 x2 y0 y1 y2 ta tb
  obtain ⟨x0,x1,x2,y0,y1,y2,ta,tb⟩:=HS.out _ hcur
  cases hu2:u2 a b with
  | true =>
    have hRb:=(Hv2.out _ hcur).2
    obtain ⟨r0,r1,r2,f0,f1,f2⟩:=cells_three hRb
    have hfin:Chg Nob w _:=((HcW.out.trans1 hcur).any (S:=At1 (w.heap.size+1))).trans1 (chg_three wc (w.heap.size+1) (.int .i64 (tF b).kind) (.string ⟨(tF b).name.toArray⟩) (.slice sb (tF b).kids.length cb)) |>.mono (fun i hi e=>by have e:i=w.heap.size+1:=e;omega)
    have Hfin:=Lib.hid hfin
    have HR3:=Lib.hid (block_three_all hRb (.int .i64 (tF b).kind) (.string ⟨(tF b).name.toArray⟩) (.slice sb (tF b).kids.length cb))
    clear hRb hfin ta tb
    go_wp2_with fail
    refine bodyPost_ret (results88 rfl HR3.out) rfl ⟨Hfin.out,_,rfl,?_⟩
    rw [until_2 hu2 hu1]
    exact IsTree.mono (fun _ _ _ h=>Hfin.out.cell' h (fun e=>e)) (fun _ hb=> .inl hb) _ _ Hb.out
  | false =>
  go_upto_region 6 with fail
  go_cut [38] from 39 to 51 (fun t38 wx=>t38 = .bool (u3 a b)∧Hid (Chg Nob W2 wx))
  case first =>
   cases h1:((tF a).kind==1) with
   | false =>
     go_wp2_with (first | (go_at_call 86;(with_reducible refine (truth_any ta).mono ?_);rintro e w' ⟨rfl,hc'⟩;replace hcur:=hcur.trans1 hc';clear hc' x0 x1 x2 y0 y1 y2 ta tb;obtain ⟨x0,x1,x2,y0,y1,y2,ta,tb⟩:=HS.out _ hcur))
     go_meet
     case rel=>exact ⟨congrArg Value.bool (by unfold u3;rw [h1];rfl),hcur⟩
   | true =>
     cases h2:kinB (tF b) 13 2 with
     | false =>
       go_wp2_with (first | (go_at_call 86;(with_reducible refine (truth_any ta).mono ?_);rintro e w' ⟨rfl,hc'⟩;replace hcur:=hcur.trans1 hc';clear hc' x0 x1 x2 y0 y1 y2 ta tb;obtain ⟨x0,x1,x2,y0,y1,y2,ta,tb⟩:=HS.out _ hcur) | (go_at_call 141;(with_reducible refine (kin_any (.inr ⟨rfl,rfl⟩) tb (fun h=>kids_ne (.inr h))).mono ?_);rintro e w' ⟨rfl,hc'⟩;replace hcur:=hcur.trans1 hc';clear hc' x0 x1 x2 y0 y1 y2 ta tb;obtain ⟨x0,x1,x2,y0,y1,y2,ta,tb⟩:=HS.out _ hcur))
       go_meet
       case rel=>exact ⟨congrArg Value.bool (by unfold u3;rw [h1,h2];rfl),hcur⟩
     | true =>
       obtain ⟨y,hby⟩:=kinB_re.1 h2
       obtain ⟨bk2,o2,s2,c2,hsb,z0,z1,z2,hty⟩:=Hb.out.kid' (j:=1) (x:=tF y) (by rw [hby];rfl)
       have hlen:(1:Int) < ((tF b).kids.length:Int):=by rw [hby];simp [tF,T.kids]
       have Hk3:Hid (kinB (kid2 (tF b)) 12 1=kinB (tF y) 12 1):=(show kinB (kid2 (tF b)) 12 1=kinB (tF y) 12 1 by rw [hby];rfl)
       have HY:Hid (∀ w',Chg Nob W2 w'→w'.cell? ⟨bk2,o2+1 * 3,none⟩=some (.int .i64 (tF y).kind)∧w'.cell? ⟨bk2,o2+1 * 3+1,none⟩=some (.string ⟨(tF y).name.toArray⟩)∧w'.cell? ⟨bk2,o2+1 * 3+2,none⟩=some (.slice s2 (tF y).kids.length c2)∧TI w' (tF y) (.agg #[.int .i64 (tF y).kind,.string ⟨(tF y).name.toArray⟩,.slice s2 (tF y).kids.length c2])) :=
        (show ∀ w',Chg Nob W2 w'→_ from fun w' h=>⟨(HcW.out.trans1 h).cell' z0 (fun e=>e),(HcW.out.trans1 h).cell' z1 (fun e=>e),(HcW.out.trans1 h).cell' z2 (fun e=>e),(hty.ti HR.out).nob (HcW.out.trans1 h)⟩)
       clear z0 z1 z2 hty hby
       rw [Nat.one_mul] at HY
       obtain ⟨z0,z1,z2,ty⟩:=HY.out _ hcur
       subst hsb
       go_wp2_with (first | (go_at_call 141;(with_reducible refine (kin_any (.inl ⟨rfl,rfl⟩) ty (fun h=>kids_ne (.inl h))).mono ?_);rintro e w' ⟨rfl,hc'⟩;replace hcur:=hcur.trans1 hc';clear hc' x0 x1 x2 y0 y1 y2 ta tb;obtain ⟨x0,x1,x2,y0,y1,y2,ta,tb⟩:=HS.out _ hcur;clear z0 z1 z2 ty;obtain ⟨z0,z1,z2,ty⟩:=HY.out _ hcur) | (go_at_call 86;(with_reducible refine (truth_any ta).mono ?_);rintro e w' ⟨rfl,hc'⟩;replace hcur:=hcur.trans1 hc';clear hc' x0 x1 x2 y0 y1 y2 ta tb;obtain ⟨x0,x1,x2,y0,y1,y2,ta,tb⟩:=HS.out _ hcur;clear z0 z1 z2 ty;obtain ⟨z0,z1,z2,ty⟩:=HY.out _ hcur) | (go_at_call 141;(with_reducible refine (kin_any (.inr ⟨rfl,rfl⟩) tb (fun h=>kids_ne (.inr h))).mono ?_);rintro e w' ⟨rfl,hc'⟩;replace hcur:=hcur.trans1 hc';clear hc' x0 x1 x2 y0 y1 y2 ta tb;obtain ⟨x0,x1,x2,y0,y1,y2,ta,tb⟩:=HS.out _ hcur;clear z0 z1 z2 ty;obtain ⟨z0,z1,z2,ty⟩:=HY.out _ hcur))
       go_meet
       case rel=>exact ⟨congrArg Value.bool (by unfold u3;rw [h1,h2,Hk3.out];rfl),hcur⟩
  case rest =>
  obtain ⟨rfl,hcw⟩:=hcut
  replace hcur:=hcw.out
  clear hcw x0 x1 x2 y0 y1 y2 ta tb
  obtain ⟨x0,x1,x2,y0,y1,y2,ta,tb⟩:=HS.out _ hcur
  cases hu3:u3 a b with
  | true =>
    have hRb:=(Hv2.out _ hcur).2
    obtain ⟨r0,r1,r2,f0,f1,f2⟩:=cells_three hRb
    have hfin:Chg Nob w _:=((HcW.out.trans1 hcur).any (S:=At1 (w.heap.size+1))).trans1 (chg_three wc (w.heap.size+1) (.int .i64 (tF b).kind) (.string ⟨(tF b).name.toArray⟩) (.slice sb (tF b).kids.length cb)) |>.mono (fun i hi e=>by have e:i=w.heap.size+1:=e;omega)
    have Hfin:=Lib.hid hfin
    have HR3:=Lib.hid (block_three_all hRb (.int .i64 (tF b).kind) (.string ⟨(tF b).name.toArray⟩) (.slice sb (tF b).kids.length cb))
    clear hRb hfin ta tb
    go_wp2_with fail
    refine bodyPost_ret (results88 rfl HR3.out) rfl ⟨Hfin.out,_,rfl,?_⟩
    rw [until_3 hu3 hu1]
    exact IsTree.mono (fun _ _ _ h=>Hfin.out.cell' h (fun e=>e)) (fun _ hb=> .inl hb) _ _ Hb.out
  | false =>
  go_upto_region 8 with fail
  go_cut [53] from 54 to 60 (fun t53 wx=>t53 = .bool (u4 a b)∧Hid (Chg Nob W2 wx))
  case first =>
   cases h1:((tF a).kind==1) with
   | true =>
     go_wp2_with (first | (go_at_call 86;(with_reducible refine (truth_any ta).mono ?_);rintro e w' ⟨rfl,hc'⟩;replace hcur:=hcur.trans1 hc';clear hc' x0 x1 x2 y0 y1 y2 ta tb;obtain ⟨x0,x1,x2,y0,y1,y2,ta,tb⟩:=HS.out _ hcur))
     go_meet
     case rel=>exact ⟨congrArg Value.bool (by unfold u4;rw [h1];rfl),hcur⟩
   | false =>
     go_wp2_with (first | (go_at_call 86;(with_reducible refine (truth_any ta).mono ?_);rintro e w' ⟨rfl,hc'⟩;replace hcur:=hcur.trans1 hc';clear hc' x0 x1 x2 y0 y1 y2 ta tb;obtain ⟨x0,x1,x2,y0,y1,y2,ta,tb⟩:=HS.out _ hcur))
     go_meet
     case rel=>exact ⟨congrArg Value.bool (by unfold u4;rw [h1];rfl),hcur⟩
  case rest =>
  obtain ⟨rfl,hcw⟩:=hcut
  replace hcur:=hcw.out
  clear hcw x0 x1 x2 y0 y1 y2 ta tb
  obtain ⟨x0,x1,x2,y0,y1,y2,ta,tb⟩:=HS.out _ hcur
  cases hu4:u4 a b with
  | false =>
    have hE:=until_5 hu1 hu2 hu3 hu4
    have hRb:=(Hv2.out _ hcur).2
    obtain ⟨r0,r1,r2,f0,f1,f2⟩:=cells_three hRb
    obtain ⟨v0,v1,v2,_⟩:=cells_three (Hv2.out _ hcur).1
    have hfin:Chg Nob w _:=((HcW.out.trans1 hcur).any (S:=At1 (w.heap.size+1))).trans1 (chg_three wc (w.heap.size+1) (.int .i64 12) (.string ⟨#[]⟩) (.slice (some ⟨bk,o,none⟩) 2 cap)) |>.mono (fun i hi e=>by have e:i=w.heap.size+1:=e;omega)
    have Hfin:=Lib.hid hfin
    have HR3:=Lib.hid (block_three_all hRb (.int .i64 12) (.string ⟨#[]⟩) (.slice (some ⟨bk,o,none⟩) 2 cap))
    clear hRb hfin ta tb
    go_wp2_with fail
    refine bodyPost_ret (results88 rfl HR3.out) rfl ⟨Hfin.out,_,rfl,?_⟩
    rw [hE]
    exact IsTree.mono (fun _ _ _ h=>Hfin.out.cell' h (fun e=>e)) (fun _ hb=> .inl hb) _ _ Hv.out
  | true =>
    obtain ⟨x,y,ha1,hby,hE⟩:=until_4 hu4 hu1 hu2
    obtain ⟨bk2,o2,s2,c2,hsb,z0,z1,z2,hty⟩:=Hb.out.kid' (j:=1) (x:=tF y) (by rw [hby];rfl)
    have hlen:(1:Int) < ((tF b).kids.length:Int):=by rw [hby];simp [tF,T.kids]
    have HY:Hid (∀ w',Chg Nob W2 w'→w'.cell? ⟨bk2,o2+1 * 3,none⟩=some (.int .i64 (tF y).kind)∧w'.cell? ⟨bk2,o2+1 * 3+1,none⟩=some (.string ⟨(tF y).name.toArray⟩)∧w'.cell? ⟨bk2,o2+1 * 3+2,none⟩=some (.slice s2 (tF y).kids.length c2)∧IsTree R w' (tF y) (.agg #[.int .i64 (tF y).kind,.string ⟨(tF y).name.toArray⟩,.slice s2 (tF y).kids.length c2])) :=
     (show ∀ w',Chg Nob W2 w'→_ from fun w' h=>⟨(HcW.out.trans1 h).cell' z0 (fun e=>e),(HcW.out.trans1 h).cell' z1 (fun e=>e),(HcW.out.trans1 h).cell' z2 (fun e=>e),hty.nob (HcW.out.trans1 h)⟩)
    have HA2:Hid (∀ w',Chg Nob W2 w'→IsTree R w' (tF .tt) (.agg #[.int .i64 (tF a).kind,.string ⟨(tF a).name.toArray⟩,.slice sa (tF a).kids.length ca])) :=
     (show ∀ w',Chg Nob W2 w'→_ from fun w' h=>by rw [← ha1];exact Ha.out.nob (HcW.out.trans1 h))
    have HrecY:=Lib.hid (Hrec.out x y hby)
    have HE:=Lib.hid hE
    clear z0 z1 z2 hty hby ha1 hE
    rw [Nat.one_mul] at HY
    obtain ⟨z0,z1,z2,ty⟩:=HY.out _ hcur
    clear ty
    subst hsb
    have hS0:=(⟨x0,x1,x2,y2,z0,z1,z2⟩:wc.cell? ⟨p,0,none⟩=some (.int .i64 (tF a).kind)∧wc.cell? ⟨p,1,none⟩=some (.string ⟨(tF a).name.toArray⟩)∧wc.cell? ⟨p,2,none⟩=some (.slice sa (tF a).kids.length ca)∧wc.cell? ⟨q,2,none⟩=some (.slice (some ⟨bk2,o2,none⟩) (tF b).kids.length cb)∧wc.cell? ⟨bk2,o2+3,none⟩=some (.int .i64 (tF y).kind)∧wc.cell? ⟨bk2,o2+3+1,none⟩=some (.string ⟨(tF y).name.toArray⟩)∧wc.cell? ⟨bk2,o2+3+2,none⟩=some (.slice s2 (tF y).kids.length c2))
    have Hcur:=Lib.hid hcur
    clear x0 x1 x2 y0 y1 y2 z0 z1 z2 ta tb hcur
    have hS9:Hid (∀ w',Chg Nob wc w'→w'.cell? ⟨p,0,none⟩=some (.int .i64 (tF a).kind)∧w'.cell? ⟨p,1,none⟩=some (.string ⟨(tF a).name.toArray⟩)∧w'.cell? ⟨p,2,none⟩=some (.slice sa (tF a).kids.length ca)∧w'.cell? ⟨q,2,none⟩=some (.slice (some ⟨bk2,o2,none⟩) (tF b).kids.length cb)∧w'.cell? ⟨bk2,o2+3,none⟩=some (.int .i64 (tF y).kind)∧w'.cell? ⟨bk2,o2+3+1,none⟩=some (.string ⟨(tF y).name.toArray⟩)∧w'.cell? ⟨bk2,o2+3+2,none⟩=some (.slice s2 (tF y).kids.length c2)):=(show ∀ w',Chg Nob wc w'→_ from fun w' h=>by
     obtain ⟨g0,g1,g2,g3,g4,g5,g6⟩:=hS0
     exact ⟨h.cell' g0 (fun e=>e),h.cell' g1 (fun e=>e),h.cell' g2 (fun e=>e),h.cell' g3 (fun e=>e),h.cell' g4 (fun e=>e),h.cell' g5 (fun e=>e),h.cell' g6 (fun e=>e)⟩)
    obtain ⟨g0,g1,g2,g3,g4,g5,g6⟩:=hS9.out wc.drew (Chg.refl _ _).drew
    clear hS0
    go_wp2_with fail
    refine wp_region_free (fun j=>j != 7) (fun w'=>w'.cell? ⟨p,0,none⟩=some (.int .i64 (tF a).kind)∧w'.cell? ⟨p,1,none⟩=some (.string ⟨(tF a).name.toArray⟩)∧w'.cell? ⟨p,2,none⟩=some (.slice sa (tF a).kids.length ca)∧w'.cell? ⟨q,2,none⟩=some (.slice (some ⟨bk2,o2,none⟩) (tF b).kids.length cb)∧w'.cell? ⟨bk2,o2+3,none⟩=some (.int .i64 (tF y).kind)∧w'.cell? ⟨bk2,o2+3+1,none⟩=some (.string ⟨(tF y).name.toArray⟩)∧w'.cell? ⟨bk2,o2+3+2,none⟩=some (.slice s2 (tF y).kids.length c2)) (by kernel_rfl) ⟨g0,g1,g2,g3,g4,g5,g6⟩ (fun hHeld=>?_)
    refine tkG 0 hHeld ?_
    refine tkG 1 hHeld ?_
    refine tkG 2 hHeld ?_
    refine tkG 3 hHeld ?_
    refine tkG 4 hHeld ?_
    refine rdG 5 fun K hK=>?_
    go_simp
    (with_reducible refine (two_any 12 _ _ _ _ _ _ _).mono ?_)
    rintro e w5 ⟨rfl,hc5,hn5⟩
    have hc5':Chg Nob wc w5:=(Chg.refl Nob wc).drew.trans1 hc5
    have hsz5:=(Array.getElem?_eq_some_iff.1 hn5).1
    have hlt5:w.heap.size+2≤wc.heap.size:=by have h1:=HcW.out.size;have h2:=Hcur.out.size;have h3:=Hsz.out;have h4:=hcut1.out.size;omega
    have hwd:wc.drew.heap.size=wc.heap.size:=rfl
    rw [hwd] at hn5 hsz5 ⊢
    have hT5:IsTree (fun b=>R b∨(wc.heap.size≤b∧b < w5.heap.size)) w5 (.node 12 [] [tF .tt,tF y]) _:=IsTree.two' (k:=12) (IsTree.mono (fun _ _ _ h=>h) (fun _ hb=> .inl hb) _ _ (HA2.out w5 (Hcur.out.trans1 hc5'))) (IsTree.mono (fun _ _ _ h=>h) (fun _ hb=> .inl hb) _ _ ((HY.out w5 (Hcur.out.trans1 hc5')).2.2.2)) hn5 (.inr ⟨by omega,hsz5⟩)
    have hp6:=HrecY.out _ w5 _ (fun b hb=>by rcases hb with hb | hb;have h1:=HR.out b hb;have h2:=HcW.out.size;have h3:=Hcur.out.size;have h4:=hc5'.size;omega;exact hb.2) hT5
    have Hp6:=Lib.hid hp6
    have Hc5:=Lib.hid hc5'
    have Hlt5:=Lib.hid hlt5
    clear hp6 hT5 hc5 hc5' hn5 hsz5 hlt5 hwd
    have hS5:=hS9.out w5 Hc5.out
    refine hK.out _ _ (fun _=>hS5) ?_
    clear hK K
    try simp only [Act.put]
    refine rdG 6 fun K hK=>?_
    go_simp
    (with_reducible refine Hp6.out.mono ?_)
    rintro e w6 ⟨hc6,v6,rfl,hT6⟩
    obtain ⟨a6,k6,e6⟩:=hT6.agg'
    subst e6
    have Hc6:=Lib.hid (Hc5.out.trans1 hc6)
    have HT6:=Lib.hid hT6
    have Hs6:=Lib.hid hc6.size
    clear hc6 hT6
    have hS6:=hS9.out w6 Hc6.out
    refine hK.out _ _ (fun _=>hS6) ?_
    clear hK K
    try simp only [Act.put]
    refine rdG 7 fun K hK=>?_
    have hRb:=(Hv2.out _ (Hcur.out.trans1 Hc6.out)).2
    obtain ⟨r0,r1,r2,f0,f1,f2⟩:=cells_three hRb
    have k7:=chg_three w6 (w.heap.size+1) (.int .i64 (tF (PL.untilF .tt y)).kind) (.string ⟨(tF (PL.untilF .tt y)).name.toArray⟩) (.slice a6 (tF (PL.untilF .tt y)).kids.length k6)
    have hfin:Chg Nob w _:=((((HcW.out.trans1 Hcur.out).trans1 Hc6.out).any (S:=At1 (w.heap.size+1))).trans1 k7).mono (fun i hi e=>by have e:i=w.heap.size+1:=e;omega)
    have HT7:Hid (IsTree _ _ _ _):=Lib.hid (IsTree.mono (R':=NewIn R w ((((w6.setCell ⟨w.heap.size+1,0,none⟩ (.int .i64 (tF (PL.untilF .tt y)).kind)).setCell ⟨w.heap.size+1,1,none⟩ (.string ⟨(tF (PL.untilF .tt y)).name.toArray⟩)).setCell ⟨w.heap.size+1,2,none⟩ (.slice a6 (tF (PL.untilF .tt y)).kids.length k6)))) (fun a v hb h=>k7.cell' h (fun e=>by have e:a.block=w.heap.size+1:=e;have h1:=Hlt5.out;have h2:=Hc5.out.size;rcases hb with (hb | hb) | hb;have h3:=HR.out _ hb;omega;omega;omega)) (fun b hb=>by have h1:=Hlt5.out;have h2:=Hc5.out.size;have h4:=Hs6.out;have h5:=k7.size;rcases hb with (hb | hb) | hb;exact .inl hb;exact .inr ⟨by omega,by omega⟩;exact .inr ⟨by omega,by omega⟩) _ _ HT6.out)
    have Hfin:=Lib.hid hfin
    have HR3:=Lib.hid (block_three_all hRb (.int .i64 (tF (PL.untilF .tt y)).kind) (.string ⟨(tF (PL.untilF .tt y)).name.toArray⟩) (.slice a6 (tF (PL.untilF .tt y)).kids.length k6))
    clear hRb hfin k7
    go_simp
    refine hK.out _ _ (fun h=>absurd h (by decide)) ?_
    clear hK K r0 r1 r2 f0 f1 f2
    try simp only [Act.put]
    refine wpAnyG_done (by kernel_rfl) ?_ _
    go_simp
    go_wp2_with fail
    refine bodyPost_ret (results88 rfl HR3.out) rfl ⟨Hfin.out,_,rfl,?_⟩
    rw [HE.out]
    exact HT7.out
theorem untilP_any (a:F):∀ (b:F) (R:Nat→Prop) (w:World) (v:Value),(∀ b,R b→b < w.heap.size)→IsTree R w (.node 12 [] [tF a,tF b]) v→Calls Tryz.prog 88 #[v] w (FPost R (PL.untilF a b) w):=by
 have key:∀ (b:F) (a:F) (R:Nat→Prop) (w:World) (v:Value),(∀ b,R b→b < w.heap.size)→IsTree R w (.node 12 [] [tF a,tF b]) v→Calls Tryz.prog 88 #[v] w (FPost R (PL.untilF a b) w):=by
  intro b
  induction b with
  | un x y _ ih=>exact fun a R w v hR hv=>until_step hR hv (fun x' y' e=>by cases e;exact ih .tt)
  | _=>exact fun a R w v hR hv=>until_step hR hv (fun x' y' e=>by cases e)
 exact fun b=>key b a
end Go.Proofs.YtkgfdgfhpdhhaaaGreat
