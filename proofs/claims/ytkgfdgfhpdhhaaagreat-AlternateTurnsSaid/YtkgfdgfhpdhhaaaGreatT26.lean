/- Parts of the walks and of the plain theory, the first: ltl's release: what a plain release is made. Conditions: the formula lies in the world. -/
import Derived.Test.YtkgfdgfhpdhhaaaGreatT25
namespace Go.Proofs.YtkgfdgfhpdhhaaaGreat
open Go.ChangeShapes Go.WideShapes Go.RowKit
open PL (F)
set_option maxRecDepth 100000
set_option maxHeartbeats 8000000
def ru1 (a b:F):Bool:=((tF b).kind==1) || ((tF b).kind==2) || ((tF a).kind==1) || sameT (tF a) (tF b)
def ru2 (a b:F):Bool:=((tF a).kind==2)&&kinB (tF b) 13 2
def ru3 (a b:F):Bool:=((tF a).kind==2)&&kinB (tF b) 12 1&&kinB (kid2 (tF b)) 13 2
def ru4 (a b:F):Bool:=((tF a).kind==2)&&((tF b).kind==13)
theorem ru1_iff {a b:F}:ru1 a b=true↔(b = .tt∨b = .ff∨a = .tt∨a=b):=by
 unfold ru1
 rw [Bool.or_eq_true,Bool.or_eq_true,Bool.or_eq_true,beq_iff_eq,beq_iff_eq,beq_iff_eq,kF_ff,kF_tt,kF_tt,sameT_tF,decide_eq_true_iff,or_assoc,or_assoc]
theorem release_1 {a b:F} (h:ru1 a b=true):PL.releaseF a b=b:=by
 rw [ru1_iff] at h
 cases b with
 | re x y =>
   rw [PL.releaseF,if_pos]
   rcases h with h | h | h | h
   ·cases h
   ·cases h
   ·exact .inl h
   ·exact .inr h
 | _ =>
   rw [PL.releaseF,if_pos h]
   intro _ _ e;cases e
theorem release_2 {a b:F} (h:ru2 a b=true) (h1:ru1 a b=false):PL.releaseF a b=b:=by
 unfold ru2 at h
 rw [Bool.and_eq_true,beq_iff_eq,kF_ff,kinB_re] at h
 obtain ⟨rfl,y,rfl⟩:=h
 rw [Bool.eq_false_iff,Ne,ru1_iff] at h1
 rw [PL.releaseF,if_neg (fun e=>h1 (.inr (.inr e))),if_pos rfl,if_pos rfl]
theorem release_3 {a b:F} (h:ru3 a b=true) (h1:ru1 a b=false):PL.releaseF a b=b:=by
 unfold ru3 at h
 rw [Bool.and_eq_true,Bool.and_eq_true,beq_iff_eq,kF_ff,kinB_un] at h
 obtain ⟨⟨rfl,y,rfl⟩,h3⟩:=h
 have h3:kinB (tF y) 13 2=true:=h3
 rw [kinB_re] at h3
 obtain ⟨z,rfl⟩:=h3
 rw [Bool.eq_false_iff,Ne,ru1_iff] at h1
 rw [PL.releaseF,if_neg h1,if_pos ⟨rfl,rfl⟩]
 intro _ _ e;cases e
theorem release_4 {a b:F} (h:ru4 a b=true) (h1:ru1 a b=false) (h2:ru2 a b=false):∃ x y,a = .ff∧b = .re x y∧PL.releaseF a b=PL.releaseF .ff y:=by
 unfold ru4 at h
 rw [Bool.and_eq_true,beq_iff_eq,beq_iff_eq,kF_ff] at h
 obtain ⟨rfl,hb⟩:=h
 obtain ⟨x,y,rfl⟩:=kF_re hb
 refine ⟨x,y,rfl,rfl,?_⟩
 rw [Bool.eq_false_iff,Ne,ru1_iff] at h1
 rw [PL.releaseF,if_neg (fun e=>h1 (.inr (.inr e))),if_pos rfl,if_neg]
 rintro rfl
 unfold ru2 at h2
 rw [kinB_re.2 ⟨y,rfl⟩] at h2
 cases h2
theorem release_5 {a b:F} (h1:ru1 a b=false) (h2:ru2 a b=false) (h3:ru3 a b=false) (h4:ru4 a b=false):PL.releaseF a b = .re a b:=by
 rw [Bool.eq_false_iff,Ne,ru1_iff] at h1
 cases b with
 | re x y =>
   rw [PL.releaseF,if_neg (fun e=>h1 (.inr (.inr e))),if_neg]
   rintro rfl
   cases h4
 | _ =>
   rw [PL.releaseF,if_neg h1,if_neg]
   ·rintro ⟨rfl,hf⟩
    unfold PL.gfg at hf
    split at hf
    ·rename_i e
     first
     | exact absurd h3 (by show ¬ (true=false);decide)
     | (cases e;exact absurd h3 (by show ¬ (true=false);decide))
     | (cases e;done)
    ·cases hf
   ·intro _ _ e;cases e
theorem results89 {rb:Nat} {tm:Array Value} {w:World} {x y z:Value} (h2:tm[2]? = some (.pointer (some ⟨rb,0,none⟩))) (hb:w.heap[rb]? = some (.cells #[x,y,z] 24 (0,0))):(results Tryz.f89 tm).run Tryz.prog w = .ok (.agg #[x,y,z]) w:=by
 obtain ⟨c0,c1,c2,_⟩:=cells_three hb
 simp [results,Tryz.results89,go_sem,h2,c0,c1,c2]
theorem release_step {R:Nat→Prop} {a b:F} {v:Value} {w:World} (hR:∀ b,R b→b < w.heap.size) (hv:IsTree R w (.node 13 [] [tF a,tF b]) v)
 (hrec:∀ x y,b = .re x y→∀ R' w' v',(∀ b,R' b→b < w'.heap.size)→IsTree R' w' (.node 13 [] [tF .ff,tF y]) v'→Calls Tryz.prog 89 #[v'] w' (FPost R' (PL.releaseF .ff y) w')) :
 Calls Tryz.prog 89 #[v] w (FPost R (PL.releaseF a b) w):=by
 obtain ⟨ao,cap,e0⟩:=hv.agg'
 have e1:v = .agg #[.int .i64 13,.string ⟨#[]⟩,.slice ao 2 cap]:=e0
 clear e0
 subst e1
 obtain ⟨bk,o,sa,ca,rfl,x0,x1,x2,ha⟩:=hv.kid' (j:=0) (x:=tF a) rfl
 obtain ⟨bk',o',sb,cb,e,y0,y1,y2,hb⟩:=hv.kid' (j:=1) (x:=tF b) rfl
 cases e
 obtain ⟨W1,hW1e,hW1,hbv,hbr,hsz⟩:=box_two' w (.int .i64 13) (.string ⟨#[]⟩) (.slice (some ⟨bk,o,none⟩) 2 cap)
 rw [Nat.zero_mul,Nat.add_zero] at x0 x1 x2
 rw [Nat.one_mul] at y0 y1 y2
 have Hv:=Lib.hid hv
 have HR:=Lib.hid hR
 have Ha:=Lib.hid ha
 have Hb:=Lib.hid hb
 have HW1:=Lib.hid hW1
 have Hbv:=Lib.hid hbv
 have Hbr:=Lib.hid hbr
 have Hsz:=Lib.hid hsz
 have Hrec:=Lib.hid hrec
 have x0':=hW1.cell' x0 (fun e=>e)
 have x1':=hW1.cell' x1 (fun e=>e)
 have x2':=hW1.cell' x2 (fun e=>e)
 have y0':=hW1.cell' y0 (fun e=>e)
 have y1':=hW1.cell' y1 (fun e=>e)
 have y2':=hW1.cell' y2 (fun e=>e)
 have v2':=cell_row hbv 2 (v:= .slice (some ⟨bk,o,none⟩) 2 cap) rfl
 have hx:∀ w',Chg Nob W1 w'→w'.cell? ⟨bk,o,none⟩=some (.int .i64 (tF a).kind)∧w'.cell? ⟨bk,o+1,none⟩=some (.string ⟨(tF a).name.toArray⟩)∧w'.cell? ⟨bk,o+2,none⟩=some (.slice sa (tF a).kids.length ca) ∧
  w'.cell? ⟨bk,o+3,none⟩=some (.int .i64 (tF b).kind)∧w'.cell? ⟨bk,o+3+1,none⟩=some (.string ⟨(tF b).name.toArray⟩)∧w'.cell? ⟨bk,o+3+2,none⟩=some (.slice sb (tF b).kids.length cb)∧w'.cell? ⟨w.heap.size,2,none⟩=some (.slice (some ⟨bk,o,none⟩) 2 cap):=fun w' h =>
  ⟨h.cell' x0' (fun e=>e),h.cell' x1' (fun e=>e),h.cell' x2' (fun e=>e),h.cell' y0' (fun e=>e),h.cell' y1' (fun e=>e),h.cell' y2' (fun e=>e),h.cell' v2' (fun e=>e)⟩
 have hA:Chg Nob W1 (W1.alloc (.cells #[.int .i64 0,.string ⟨#[]⟩,.slice none 0 0] 24)):=(Chg.refl _ _).alloc _
 obtain ⟨p0,p1,p2,p3,p4,p5,p6⟩:=hx W1.drew (Chg.refl _ _).drew
 have hSx:=Lib.hid hx
 clear hR hv ha hb hbv hbr hsz hrec x0 x1 x2 y0 y1 y2 hW1 hx hA x0' x1' x2' y0' y1' y2' v2'
 go_enter Tryz.func89,Tryz.ntmps89
 go_upto_region 1 with fail
 rw [← hW1e]
 clear hW1e
 go_cut [3,4] from 5 to 12 (fun t3 t4 wx=>∃ p q:Nat,t3 = .pointer (some ⟨p,0,none⟩)∧t4 = .pointer (some ⟨q,0,none⟩)∧Hid (Chg Nob W1 wx∧wx.heap[p]? = some (.cells #[.int .i64 (tF a).kind,.string ⟨(tF a).name.toArray⟩,.slice sa (tF a).kids.length ca] 24 (0,0))∧wx.heap[q]? = some (.cells #[.int .i64 (tF b).kind,.string ⟨(tF b).name.toArray⟩,.slice sb (tF b).kids.length cb] 24 (0,0))))
 case first =>
  go_wp2_with fail
  refine wp_region_free (fun j=>j != 11) (fun w'=>w'.cell? ⟨bk,o,none⟩=some (.int .i64 (tF a).kind)∧w'.cell? ⟨bk,o+1,none⟩=some (.string ⟨(tF a).name.toArray⟩)∧w'.cell? ⟨bk,o+2,none⟩=some (.slice sa (tF a).kids.length ca)∧w'.cell? ⟨bk,o+3,none⟩=some (.int .i64 (tF b).kind)∧w'.cell? ⟨bk,o+3+1,none⟩=some (.string ⟨(tF b).name.toArray⟩)∧w'.cell? ⟨bk,o+3+2,none⟩=some (.slice sb (tF b).kids.length cb)∧w'.cell? ⟨w.heap.size,2,none⟩=some (.slice (some ⟨bk,o,none⟩) 2 cap)) (by kernel_rfl) ⟨p0,p1,p2,p3,p4,p5,p6⟩ (fun hHeld=>?_)
  refine tkG 0 hHeld ?_
  refine tkG 1 hHeld ?_
  refine tkG 2 hHeld ?_
  refine tkG 3 hHeld ?_
  refine tkG 4 hHeld ?_
  refine tkG 5 hHeld ?_
  refine tkG 6 hHeld ?_
  refine tkG 7 hHeld ?_
  refine wpAnyG_ready (rs:=[8,9]) (by kernel_rfl) (by simp) ?_
  refine AllReadyG.cons rfl (fun K hK=>?_) (AllReadyG.cons rfl (fun K hK=>?_) AllReadyG.nil)
  ·rw [if_pos (by kernel_rfl)]
   have hS1:=hSx.out ((W1.alloc (.cells #[.int .i64 0,.string ⟨#[]⟩,.slice none 0 0] 24)).drew) (((Chg.refl _ _).alloc _).drew)
   go_simp
   refine hK.out _ _ (fun _=>hS1) ?_
   clear hK K
   try simp only [Act.put]
   refine rdG 9 fun K hK=>?_
   have hS2:=hSx.out (((W1.alloc (.cells #[.int .i64 0,.string ⟨#[]⟩,.slice none 0 0] 24)).alloc (.cells #[.int .i64 0,.string ⟨#[]⟩,.slice none 0 0] 24)).drew) ((((Chg.refl _ _).alloc _).alloc _).drew)
   go_simp
   refine hK.out _ _ (fun _=>hS2) ?_
   clear hK K
   try simp only [Act.put]
   refine rdG 10 fun K hK=>?_
   have hS3:=hSx.out (((W1.alloc (.cells #[(.int .i64 (tF a).kind),(.string ⟨(tF a).name.toArray⟩),(.slice sa (tF a).kids.length ca)] 24)).alloc (.cells #[.int .i64 0,.string ⟨#[]⟩,.slice none 0 0] 24)).drew) ((((Chg.refl _ _).alloc _).alloc _).drew)
   go_simp
   refine hK.out _ _ (fun _=>hS3) ?_
   clear hK K
   try simp only [Act.put]
   refine rdG 11 fun K hK=>?_
   go_simp
   refine hK.out _ _ (fun h=>absurd h (by decide)) ?_
   clear hK K
   try simp only [Act.put]
   refine wpAnyG_done (by kernel_rfl) ?_ _
   go_simp
   have h0:Chg Nob W1 ((W1.alloc (.cells #[(.int .i64 (tF a).kind),(.string ⟨(tF a).name.toArray⟩),(.slice sa (tF a).kids.length ca)] 24)).alloc (.cells #[(.int .i64 (tF b).kind),(.string ⟨(tF b).name.toArray⟩),(.slice sb (tF b).kids.length cb)] 24)).drew:=(((Chg.refl _ _).alloc _).alloc _).drew
   have h1:((W1.alloc (.cells #[(.int .i64 (tF a).kind),(.string ⟨(tF a).name.toArray⟩),(.slice sa (tF a).kids.length ca)] 24)).alloc (.cells #[(.int .i64 (tF b).kind),(.string ⟨(tF b).name.toArray⟩),(.slice sb (tF b).kids.length cb)] 24)).drew.heap[W1.heap.size]? = some (.cells #[(.int .i64 (tF a).kind),(.string ⟨(tF a).name.toArray⟩),(.slice sa (tF a).kids.length ca)] 24 (0,0)):=((Chg.refl Nob _).alloc (.cells #[(.int .i64 (tF b).kind),(.string ⟨(tF b).name.toArray⟩),(.slice sb (tF b).kids.length cb)] 24)).at (heap_alloc_new W1 (.cells #[(.int .i64 (tF a).kind),(.string ⟨(tF a).name.toArray⟩),(.slice sa (tF a).kids.length ca)] 24)) (fun e=>e)
   have h2:((W1.alloc (.cells #[(.int .i64 (tF a).kind),(.string ⟨(tF a).name.toArray⟩),(.slice sa (tF a).kids.length ca)] 24)).alloc (.cells #[(.int .i64 (tF b).kind),(.string ⟨(tF b).name.toArray⟩),(.slice sb (tF b).kids.length cb)] 24)).drew.heap[W1.heap.size+1]? = some (.cells #[(.int .i64 (tF b).kind),(.string ⟨(tF b).name.toArray⟩),(.slice sb (tF b).kids.length cb)] 24 (0,0)):=by
    have h:=heap_alloc_new (W1.alloc (.cells #[(.int .i64 (tF a).kind),(.string ⟨(tF a).name.toArray⟩),(.slice sa (tF a).kids.length ca)] 24)) (.cells #[(.int .i64 (tF b).kind),(.string ⟨(tF b).name.toArray⟩),(.slice sb (tF b).kids.length cb)] 24)
    rwa [World.size_alloc] at h
   go_wp2_with fail
   go_meet
   case rel=>exact ⟨W1.heap.size,W1.heap.size+1,rfl,rfl,h0,h1,h2⟩
  ·rw [if_pos (by kernel_rfl)]
   have hS1:=hSx.out ((W1.alloc (.cells #[.int .i64 0,.string ⟨#[]⟩,.slice none 0 0] 24)).drew) (((Chg.refl _ _).alloc _).drew)
   go_simp
   refine hK.out _ _ (fun _=>hS1) ?_
   clear hK K
   try simp only [Act.put]
   refine rdG 8 fun K hK=>?_
   have hS2:=hSx.out (((W1.alloc (.cells #[.int .i64 0,.string ⟨#[]⟩,.slice none 0 0] 24)).alloc (.cells #[.int .i64 0,.string ⟨#[]⟩,.slice none 0 0] 24)).drew) ((((Chg.refl _ _).alloc _).alloc _).drew)
   go_simp
   refine hK.out _ _ (fun _=>hS2) ?_
   clear hK K
   try simp only [Act.put]
   refine rdG 10 fun K hK=>?_
   have hS3:=hSx.out (((W1.alloc (.cells #[.int .i64 0,.string ⟨#[]⟩,.slice none 0 0] 24)).alloc (.cells #[(.int .i64 (tF a).kind),(.string ⟨(tF a).name.toArray⟩),(.slice sa (tF a).kids.length ca)] 24)).drew) ((((Chg.refl _ _).alloc _).alloc _).drew)
   go_simp
   refine hK.out _ _ (fun _=>hS3) ?_
   clear hK K
   try simp only [Act.put]
   refine rdG 11 fun K hK=>?_
   go_simp
   refine hK.out _ _ (fun h=>absurd h (by decide)) ?_
   clear hK K
   try simp only [Act.put]
   refine wpAnyG_done (by kernel_rfl) ?_ _
   go_simp
   have h0:Chg Nob W1 ((W1.alloc (.cells #[(.int .i64 (tF b).kind),(.string ⟨(tF b).name.toArray⟩),(.slice sb (tF b).kids.length cb)] 24)).alloc (.cells #[(.int .i64 (tF a).kind),(.string ⟨(tF a).name.toArray⟩),(.slice sa (tF a).kids.length ca)] 24)).drew:=(((Chg.refl _ _).alloc _).alloc _).drew
   have h1:((W1.alloc (.cells #[(.int .i64 (tF b).kind),(.string ⟨(tF b).name.toArray⟩),(.slice sb (tF b).kids.length cb)] 24)).alloc (.cells #[(.int .i64 (tF a).kind),(.string ⟨(tF a).name.toArray⟩),(.slice sa (tF a).kids.length ca)] 24)).drew.heap[W1.heap.size]? = some (.cells #[(.int .i64 (tF b).kind),(.string ⟨(tF b).name.toArray⟩),(.slice sb (tF b).kids.length cb)] 24 (0,0)):=((Chg.refl Nob _).alloc (.cells #[(.int .i64 (tF a).kind),(.string ⟨(tF a).name.toArray⟩),(.slice sa (tF a).kids.length ca)] 24)).at (heap_alloc_new W1 (.cells #[(.int .i64 (tF b).kind),(.string ⟨(tF b).name.toArray⟩),(.slice sb (tF b).kids.length cb)] 24)) (fun e=>e)
   have h2:((W1.alloc (.cells #[(.int .i64 (tF b).kind),(.string ⟨(tF b).name.toArray⟩),(.slice sb (tF b).kids.length cb)] 24)).alloc (.cells #[(.int .i64 (tF a).kind),(.string ⟨(tF a).name.toArray⟩),(.slice sa (tF a).kids.length ca)] 24)).drew.heap[W1.heap.size+1]? = some (.cells #[(.int .i64 (tF a).kind),(.string ⟨(tF a).name.toArray⟩),(.slice sa (tF a).kids.length ca)] 24 (0,0)):=by
    have h:=heap_alloc_new (W1.alloc (.cells #[(.int .i64 (tF b).kind),(.string ⟨(tF b).name.toArray⟩),(.slice sb (tF b).kids.length cb)] 24)) (.cells #[(.int .i64 (tF a).kind),(.string ⟨(tF a).name.toArray⟩),(.slice sa (tF a).kids.length ca)] 24)
    rwa [World.size_alloc] at h
   go_wp2_with fail
   go_meet
   case rel=>exact ⟨W1.heap.size+1,W1.heap.size,rfl,rfl,h0,h2,h1⟩
 case rest =>
  obtain ⟨p,q,rfl,rfl,hcut2⟩:=hcut
  obtain ⟨W2,hW2⟩:∃ X,X=wc:=⟨_,rfl⟩
  subst hW2
  have hcb:=hcut2.out.1
  have hcut1:=Lib.hid hcb
  have hpb:=hcut2.out.2.1
  have hqb:=hcut2.out.2.2
  have HcW:Hid (Chg Nob w W2):=Lib.hid (HW1.out.trans1 hcb)
  have Hv2:Hid (∀ w',Chg Nob W2 w'→w'.heap[w.heap.size]? = some (.cells #[.int .i64 13,.string ⟨#[]⟩,.slice (some ⟨bk,o,none⟩) 2 cap] 24 (0,0))∧w'.heap[w.heap.size+1]? = some (.cells #[.int .i64 0,.string ⟨#[]⟩,.slice none 0 0] 24 (0,0))) :=
   (show ∀ w',Chg Nob W2 w'→_ from fun w' h=>⟨(hcb.trans1 h).at Hbv.out (fun e=>e),(hcb.trans1 h).at Hbr.out (fun e=>e)⟩)
  have HS:Hid (∀ w',Chg Nob W2 w'→w'.cell? ⟨p,0,none⟩=some (.int .i64 (tF a).kind)∧w'.cell? ⟨p,1,none⟩=some (.string ⟨(tF a).name.toArray⟩)∧w'.cell? ⟨p,2,none⟩=some (.slice sa (tF a).kids.length ca) ∧
   w'.cell? ⟨q,0,none⟩=some (.int .i64 (tF b).kind)∧w'.cell? ⟨q,1,none⟩=some (.string ⟨(tF b).name.toArray⟩)∧w'.cell? ⟨q,2,none⟩=some (.slice sb (tF b).kids.length cb) ∧
   TI w' (tF a) (.agg #[.int .i64 (tF a).kind,.string ⟨(tF a).name.toArray⟩,.slice sa (tF a).kids.length ca])∧TI w' (tF b) (.agg #[.int .i64 (tF b).kind,.string ⟨(tF b).name.toArray⟩,.slice sb (tF b).kids.length cb])) :=
   (show ∀ w',Chg Nob W2 w'→_ from fun w' h=>by
    obtain ⟨a0,a1,a2,_⟩:=cells_three (h.at hpb (fun e=>e))
    obtain ⟨b0,b1,b2,_⟩:=cells_three (h.at hqb (fun e=>e))
    exact ⟨a0,a1,a2,b0,b1,b2,(Ha.out.ti HR.out).nob (HcW.out.trans1 h),(Hb.out.ti HR.out).nob (HcW.out.trans1 h)⟩)
  have hcur:=Chg.refl Nob W2
  obtain ⟨x0,x1,x2,y0,y1,y2,ta,tb⟩:=HS.out _ hcur
  clear hcut2 hcb hpb hqb hSx p0 p1 p2 p3 p4 p5 p6
  go_upto_region 2 with fail
  go_cut [13] from 14 to 28 (fun t13 wx=>t13 = .bool (ru1 a b)∧Hid (Chg Nob W2 wx))
  case first =>
   cases h1:((tF b).kind==1) with
   | true =>
     go_wp2_with (first | (go_at_call 87;(with_reducible refine (falsity_any tb).mono ?_);rintro e w' ⟨rfl,hc'⟩;replace hcur:=hcur.trans1 hc';clear hc' x0 x1 x2 y0 y1 y2 ta tb;obtain ⟨x0,x1,x2,y0,y1,y2,ta,tb⟩:=HS.out _ hcur) | (go_at_call 86;(with_reducible refine (truth_any tb).mono ?_);rintro e w' ⟨rfl,hc'⟩;replace hcur:=hcur.trans1 hc';clear hc' x0 x1 x2 y0 y1 y2 ta tb;obtain ⟨x0,x1,x2,y0,y1,y2,ta,tb⟩:=HS.out _ hcur) | (go_at_call 86;(with_reducible refine (truth_any ta).mono ?_);rintro e w' ⟨rfl,hc'⟩;replace hcur:=hcur.trans1 hc';clear hc' x0 x1 x2 y0 y1 y2 ta tb;obtain ⟨x0,x1,x2,y0,y1,y2,ta,tb⟩:=HS.out _ hcur) | (go_at_call 138;(with_reducible refine (same_ti ta tb).mono ?_);rintro e w' ⟨rfl,hc'⟩;replace hcur:=hcur.trans1 hc';clear hc' x0 x1 x2 y0 y1 y2 ta tb;obtain ⟨x0,x1,x2,y0,y1,y2,ta,tb⟩:=HS.out _ hcur))
     go_meet
     case rel=>exact ⟨congrArg Value.bool (by unfold ru1;rw [h1];rfl),hcur⟩
   | false =>
     cases h2:((tF b).kind==2) with
     | true =>
       go_wp2_with (first | (go_at_call 87;(with_reducible refine (falsity_any tb).mono ?_);rintro e w' ⟨rfl,hc'⟩;replace hcur:=hcur.trans1 hc';clear hc' x0 x1 x2 y0 y1 y2 ta tb;obtain ⟨x0,x1,x2,y0,y1,y2,ta,tb⟩:=HS.out _ hcur) | (go_at_call 86;(with_reducible refine (truth_any tb).mono ?_);rintro e w' ⟨rfl,hc'⟩;replace hcur:=hcur.trans1 hc';clear hc' x0 x1 x2 y0 y1 y2 ta tb;obtain ⟨x0,x1,x2,y0,y1,y2,ta,tb⟩:=HS.out _ hcur) | (go_at_call 86;(with_reducible refine (truth_any ta).mono ?_);rintro e w' ⟨rfl,hc'⟩;replace hcur:=hcur.trans1 hc';clear hc' x0 x1 x2 y0 y1 y2 ta tb;obtain ⟨x0,x1,x2,y0,y1,y2,ta,tb⟩:=HS.out _ hcur) | (go_at_call 138;(with_reducible refine (same_ti ta tb).mono ?_);rintro e w' ⟨rfl,hc'⟩;replace hcur:=hcur.trans1 hc';clear hc' x0 x1 x2 y0 y1 y2 ta tb;obtain ⟨x0,x1,x2,y0,y1,y2,ta,tb⟩:=HS.out _ hcur))
       go_meet
       case rel=>exact ⟨congrArg Value.bool (by unfold ru1;rw [h1,h2];rfl),hcur⟩
     | false =>
       cases h3:((tF a).kind==1) with
       | true =>
         go_wp2_with (first | (go_at_call 87;(with_reducible refine (falsity_any tb).mono ?_);rintro e w' ⟨rfl,hc'⟩;replace hcur:=hcur.trans1 hc';clear hc' x0 x1 x2 y0 y1 y2 ta tb;obtain ⟨x0,x1,x2,y0,y1,y2,ta,tb⟩:=HS.out _ hcur) | (go_at_call 86;(with_reducible refine (truth_any tb).mono ?_);rintro e w' ⟨rfl,hc'⟩;replace hcur:=hcur.trans1 hc';clear hc' x0 x1 x2 y0 y1 y2 ta tb;obtain ⟨x0,x1,x2,y0,y1,y2,ta,tb⟩:=HS.out _ hcur) | (go_at_call 86;(with_reducible refine (truth_any ta).mono ?_);rintro e w' ⟨rfl,hc'⟩;replace hcur:=hcur.trans1 hc';clear hc' x0 x1 x2 y0 y1 y2 ta tb;obtain ⟨x0,x1,x2,y0,y1,y2,ta,tb⟩:=HS.out _ hcur) | (go_at_call 138;(with_reducible refine (same_ti ta tb).mono ?_);rintro e w' ⟨rfl,hc'⟩;replace hcur:=hcur.trans1 hc';clear hc' x0 x1 x2 y0 y1 y2 ta tb;obtain ⟨x0,x1,x2,y0,y1,y2,ta,tb⟩:=HS.out _ hcur))
         go_meet
         case rel=>exact ⟨congrArg Value.bool (by unfold ru1;rw [h1,h2,h3];rfl),hcur⟩
       | false =>
         go_wp2_with (first | (go_at_call 87;(with_reducible refine (falsity_any tb).mono ?_);rintro e w' ⟨rfl,hc'⟩;replace hcur:=hcur.trans1 hc';clear hc' x0 x1 x2 y0 y1 y2 ta tb;obtain ⟨x0,x1,x2,y0,y1,y2,ta,tb⟩:=HS.out _ hcur) | (go_at_call 86;(with_reducible refine (truth_any tb).mono ?_);rintro e w' ⟨rfl,hc'⟩;replace hcur:=hcur.trans1 hc';clear hc' x0 x1 x2 y0 y1 y2 ta tb;obtain ⟨x0,x1,x2,y0,y1,y2,ta,tb⟩:=HS.out _ hcur) | (go_at_call 86;(with_reducible refine (truth_any ta).mono ?_);rintro e w' ⟨rfl,hc'⟩;replace hcur:=hcur.trans1 hc';clear hc' x0 x1 x2 y0 y1 y2 ta tb;obtain ⟨x0,x1,x2,y0,y1,y2,ta,tb⟩:=HS.out _ hcur) | (go_at_call 138;(with_reducible refine (same_ti ta tb).mono ?_);rintro e w' ⟨rfl,hc'⟩;replace hcur:=hcur.trans1 hc';clear hc' x0 x1 x2 y0 y1 y2 ta tb;obtain ⟨x0,x1,x2,y0,y1,y2,ta,tb⟩:=HS.out _ hcur))
         go_meet
         case rel=>exact ⟨congrArg Value.bool (by unfold ru1;rw [h1,h2,h3];rfl),hcur⟩
  case rest =>
  obtain ⟨rfl,hcw⟩:=hcut
  replace hcur:=hcw.out
  clear hcw x0 x1 x2 y0 y1 y2 ta tb
  obtain ⟨x0,x1,x2,y0,y1,y2,ta,tb⟩:=HS.out _ hcur
  cases hu1:ru1 a b with
  | true =>
    have hRb:=(Hv2.out _ hcur).2
    obtain ⟨r0,r1,r2,f0,f1,f2⟩:=cells_three hRb
    have hfin:Chg Nob w _:=((HcW.out.trans1 hcur).any (S:=At1 (w.heap.size+1))).trans1 (chg_three wc (w.heap.size+1) (.int .i64 (tF b).kind) (.string ⟨(tF b).name.toArray⟩) (.slice sb (tF b).kids.length cb)) |>.mono (fun i hi e=>by have e:i=w.heap.size+1:=e;omega)
    have Hfin:=Lib.hid hfin
    have HR3:=Lib.hid (block_three_all hRb (.int .i64 (tF b).kind) (.string ⟨(tF b).name.toArray⟩) (.slice sb (tF b).kids.length cb))
    clear hRb hfin ta tb
    go_wp2_with fail
    refine bodyPost_ret (results89 rfl HR3.out) rfl ⟨Hfin.out,_,rfl,?_⟩
    rw [release_1 hu1]
    exact IsTree.mono (fun _ _ _ h=>Hfin.out.cell' h (fun e=>e)) (fun _ hb=> .inl hb) _ _ Hb.out
  | false =>
  go_upto_region 4 with fail
  go_cut [30] from 31 to 36 (fun t30 wx=>t30 = .bool (ru2 a b)∧Hid (Chg Nob W2 wx))
  case first =>
   cases h1:((tF a).kind==2) with
   | true =>
     go_wp2_with (first | (go_at_call 87;(with_reducible refine (falsity_any ta).mono ?_);rintro e w' ⟨rfl,hc'⟩;replace hcur:=hcur.trans1 hc';clear hc' x0 x1 x2 y0 y1 y2 ta tb;obtain ⟨x0,x1,x2,y0,y1,y2,ta,tb⟩:=HS.out _ hcur) | (go_at_call 141;(with_reducible refine (kin_any (.inr ⟨rfl,rfl⟩) tb (fun h=>kids_ne (.inr h))).mono ?_);rintro e w' ⟨rfl,hc'⟩;replace hcur:=hcur.trans1 hc';clear hc' x0 x1 x2 y0 y1 y2 ta tb;obtain ⟨x0,x1,x2,y0,y1,y2,ta,tb⟩:=HS.out _ hcur))
     go_meet
     case rel=>exact ⟨congrArg Value.bool (by unfold ru2;rw [h1];rfl),hcur⟩
   | false =>
     go_wp2_with (first | (go_at_call 87;(with_reducible refine (falsity_any ta).mono ?_);rintro e w' ⟨rfl,hc'⟩;replace hcur:=hcur.trans1 hc';clear hc' x0 x1 x2 y0 y1 y2 ta tb;obtain ⟨x0,x1,x2,y0,y1,y2,ta,tb⟩:=HS.out _ hcur) | (go_at_call 141;(with_reducible refine (kin_any (.inr ⟨rfl,rfl⟩) tb (fun h=>kids_ne (.inr h))).mono ?_);rintro e w' ⟨rfl,hc'⟩;replace hcur:=hcur.trans1 hc';clear hc' x0 x1 x2 y0 y1 y2 ta tb;obtain ⟨x0,x1,x2,y0,y1,y2,ta,tb⟩:=HS.out _ hcur))
     go_meet
     case rel=>exact ⟨congrArg Value.bool (by unfold ru2;rw [h1];rfl),hcur⟩
  case rest =>
  obtain ⟨rfl,hcw⟩:=hcut
  replace hcur:=hcw.out
  clear hcw x0 x1 x2 y0 y1 y2 ta tb
  obtain ⟨x0,x1,x2,y0,y1,y2,ta,tb⟩:=HS.out _ hcur
  cases hu2:ru2 a b with
  | true =>
    have hRb:=(Hv2.out _ hcur).2
    obtain ⟨r0,r1,r2,f0,f1,f2⟩:=cells_three hRb
    have hfin:Chg Nob w _:=((HcW.out.trans1 hcur).any (S:=At1 (w.heap.size+1))).trans1 (chg_three wc (w.heap.size+1) (.int .i64 (tF b).kind) (.string ⟨(tF b).name.toArray⟩) (.slice sb (tF b).kids.length cb)) |>.mono (fun i hi e=>by have e:i=w.heap.size+1:=e;omega)
    have Hfin:=Lib.hid hfin
    have HR3:=Lib.hid (block_three_all hRb (.int .i64 (tF b).kind) (.string ⟨(tF b).name.toArray⟩) (.slice sb (tF b).kids.length cb))
    clear hRb hfin ta tb
    go_wp2_with fail
    refine bodyPost_ret (results89 rfl HR3.out) rfl ⟨Hfin.out,_,rfl,?_⟩
    rw [release_2 hu2 hu1]
    exact IsTree.mono (fun _ _ _ h=>Hfin.out.cell' h (fun e=>e)) (fun _ hb=> .inl hb) _ _ Hb.out
  | false =>
  go_upto_region 6 with fail
  go_cut [38] from 39 to 51 (fun t38 wx=>t38 = .bool (ru3 a b)∧Hid (Chg Nob W2 wx))
  case first =>
   cases h1:((tF a).kind==2) with
   | false =>
     go_wp2_with (first | (go_at_call 87;(with_reducible refine (falsity_any ta).mono ?_);rintro e w' ⟨rfl,hc'⟩;replace hcur:=hcur.trans1 hc';clear hc' x0 x1 x2 y0 y1 y2 ta tb;obtain ⟨x0,x1,x2,y0,y1,y2,ta,tb⟩:=HS.out _ hcur))
     go_meet
     case rel=>exact ⟨congrArg Value.bool (by unfold ru3;rw [h1];rfl),hcur⟩
   | true =>
     cases h2:kinB (tF b) 12 1 with
     | false =>
       go_wp2_with (first | (go_at_call 87;(with_reducible refine (falsity_any ta).mono ?_);rintro e w' ⟨rfl,hc'⟩;replace hcur:=hcur.trans1 hc';clear hc' x0 x1 x2 y0 y1 y2 ta tb;obtain ⟨x0,x1,x2,y0,y1,y2,ta,tb⟩:=HS.out _ hcur) | (go_at_call 141;(with_reducible refine (kin_any (.inl ⟨rfl,rfl⟩) tb (fun h=>kids_ne (.inl h))).mono ?_);rintro e w' ⟨rfl,hc'⟩;replace hcur:=hcur.trans1 hc';clear hc' x0 x1 x2 y0 y1 y2 ta tb;obtain ⟨x0,x1,x2,y0,y1,y2,ta,tb⟩:=HS.out _ hcur))
       go_meet
       case rel=>exact ⟨congrArg Value.bool (by unfold ru3;rw [h1,h2];rfl),hcur⟩
     | true =>
       obtain ⟨y,hby⟩:=kinB_un.1 h2
       obtain ⟨bk2,o2,s2,c2,hsb,z0,z1,z2,hty⟩:=Hb.out.kid' (j:=1) (x:=tF y) (by rw [hby];rfl)
       have hlen:(1:Int) < ((tF b).kids.length:Int):=by rw [hby];simp [tF,T.kids]
       have Hk3:Hid (kinB (kid2 (tF b)) 13 2=kinB (tF y) 13 2):=(show kinB (kid2 (tF b)) 13 2=kinB (tF y) 13 2 by rw [hby];rfl)
       have HY:Hid (∀ w',Chg Nob W2 w'→w'.cell? ⟨bk2,o2+1 * 3,none⟩=some (.int .i64 (tF y).kind)∧w'.cell? ⟨bk2,o2+1 * 3+1,none⟩=some (.string ⟨(tF y).name.toArray⟩)∧w'.cell? ⟨bk2,o2+1 * 3+2,none⟩=some (.slice s2 (tF y).kids.length c2)∧TI w' (tF y) (.agg #[.int .i64 (tF y).kind,.string ⟨(tF y).name.toArray⟩,.slice s2 (tF y).kids.length c2])) :=
        (show ∀ w',Chg Nob W2 w'→_ from fun w' h=>⟨(HcW.out.trans1 h).cell' z0 (fun e=>e),(HcW.out.trans1 h).cell' z1 (fun e=>e),(HcW.out.trans1 h).cell' z2 (fun e=>e),(hty.ti HR.out).nob (HcW.out.trans1 h)⟩)
       clear z0 z1 z2 hty hby
       rw [Nat.one_mul] at HY
       obtain ⟨z0,z1,z2,ty⟩:=HY.out _ hcur
       subst hsb
       go_wp2_with (first | (go_at_call 141;(with_reducible refine (kin_any (.inr ⟨rfl,rfl⟩) ty (fun h=>kids_ne (.inr h))).mono ?_);rintro e w' ⟨rfl,hc'⟩;replace hcur:=hcur.trans1 hc';clear hc' x0 x1 x2 y0 y1 y2 ta tb;obtain ⟨x0,x1,x2,y0,y1,y2,ta,tb⟩:=HS.out _ hcur;clear z0 z1 z2 ty;obtain ⟨z0,z1,z2,ty⟩:=HY.out _ hcur) | (go_at_call 87;(with_reducible refine (falsity_any ta).mono ?_);rintro e w' ⟨rfl,hc'⟩;replace hcur:=hcur.trans1 hc';clear hc' x0 x1 x2 y0 y1 y2 ta tb;obtain ⟨x0,x1,x2,y0,y1,y2,ta,tb⟩:=HS.out _ hcur;clear z0 z1 z2 ty;obtain ⟨z0,z1,z2,ty⟩:=HY.out _ hcur) | (go_at_call 141;(with_reducible refine (kin_any (.inl ⟨rfl,rfl⟩) tb (fun h=>kids_ne (.inl h))).mono ?_);rintro e w' ⟨rfl,hc'⟩;replace hcur:=hcur.trans1 hc';clear hc' x0 x1 x2 y0 y1 y2 ta tb;obtain ⟨x0,x1,x2,y0,y1,y2,ta,tb⟩:=HS.out _ hcur;clear z0 z1 z2 ty;obtain ⟨z0,z1,z2,ty⟩:=HY.out _ hcur))
       go_meet
       case rel=>exact ⟨congrArg Value.bool (by unfold ru3;rw [h1,h2,Hk3.out];rfl),hcur⟩
  case rest =>
  obtain ⟨rfl,hcw⟩:=hcut
  replace hcur:=hcw.out
  clear hcw x0 x1 x2 y0 y1 y2 ta tb
  obtain ⟨x0,x1,x2,y0,y1,y2,ta,tb⟩:=HS.out _ hcur
  cases hu3:ru3 a b with
  | true =>
    have hRb:=(Hv2.out _ hcur).2
    obtain ⟨r0,r1,r2,f0,f1,f2⟩:=cells_three hRb
    have hfin:Chg Nob w _:=((HcW.out.trans1 hcur).any (S:=At1 (w.heap.size+1))).trans1 (chg_three wc (w.heap.size+1) (.int .i64 (tF b).kind) (.string ⟨(tF b).name.toArray⟩) (.slice sb (tF b).kids.length cb)) |>.mono (fun i hi e=>by have e:i=w.heap.size+1:=e;omega)
    have Hfin:=Lib.hid hfin
    have HR3:=Lib.hid (block_three_all hRb (.int .i64 (tF b).kind) (.string ⟨(tF b).name.toArray⟩) (.slice sb (tF b).kids.length cb))
    clear hRb hfin ta tb
    go_wp2_with fail
    refine bodyPost_ret (results89 rfl HR3.out) rfl ⟨Hfin.out,_,rfl,?_⟩
    rw [release_3 hu3 hu1]
    exact IsTree.mono (fun _ _ _ h=>Hfin.out.cell' h (fun e=>e)) (fun _ hb=> .inl hb) _ _ Hb.out
  | false =>
  go_upto_region 8 with fail
  go_cut [53] from 54 to 60 (fun t53 wx=>t53 = .bool (ru4 a b)∧Hid (Chg Nob W2 wx))
  case first =>
   cases h1:((tF a).kind==2) with
   | true =>
     go_wp2_with (first | (go_at_call 87;(with_reducible refine (falsity_any ta).mono ?_);rintro e w' ⟨rfl,hc'⟩;replace hcur:=hcur.trans1 hc';clear hc' x0 x1 x2 y0 y1 y2 ta tb;obtain ⟨x0,x1,x2,y0,y1,y2,ta,tb⟩:=HS.out _ hcur))
     go_meet
     case rel=>exact ⟨congrArg Value.bool (by unfold ru4;rw [h1];rfl),hcur⟩
   | false =>
     go_wp2_with (first | (go_at_call 87;(with_reducible refine (falsity_any ta).mono ?_);rintro e w' ⟨rfl,hc'⟩;replace hcur:=hcur.trans1 hc';clear hc' x0 x1 x2 y0 y1 y2 ta tb;obtain ⟨x0,x1,x2,y0,y1,y2,ta,tb⟩:=HS.out _ hcur))
     go_meet
     case rel=>exact ⟨congrArg Value.bool (by unfold ru4;rw [h1];rfl),hcur⟩
  case rest =>
  obtain ⟨rfl,hcw⟩:=hcut
  replace hcur:=hcw.out
  clear hcw x0 x1 x2 y0 y1 y2 ta tb
  obtain ⟨x0,x1,x2,y0,y1,y2,ta,tb⟩:=HS.out _ hcur
  cases hu4:ru4 a b with
  | false =>
    have hE:=release_5 hu1 hu2 hu3 hu4
    have hRb:=(Hv2.out _ hcur).2
    obtain ⟨r0,r1,r2,f0,f1,f2⟩:=cells_three hRb
    obtain ⟨v0,v1,v2,_⟩:=cells_three (Hv2.out _ hcur).1
    have hfin:Chg Nob w _:=((HcW.out.trans1 hcur).any (S:=At1 (w.heap.size+1))).trans1 (chg_three wc (w.heap.size+1) (.int .i64 13) (.string ⟨#[]⟩) (.slice (some ⟨bk,o,none⟩) 2 cap)) |>.mono (fun i hi e=>by have e:i=w.heap.size+1:=e;omega)
    have Hfin:=Lib.hid hfin
    have HR3:=Lib.hid (block_three_all hRb (.int .i64 13) (.string ⟨#[]⟩) (.slice (some ⟨bk,o,none⟩) 2 cap))
    clear hRb hfin ta tb
    go_wp2_with fail
    refine bodyPost_ret (results89 rfl HR3.out) rfl ⟨Hfin.out,_,rfl,?_⟩
    rw [hE]
    exact IsTree.mono (fun _ _ _ h=>Hfin.out.cell' h (fun e=>e)) (fun _ hb=> .inl hb) _ _ Hv.out
  | true =>
    obtain ⟨x,y,ha1,hby,hE⟩:=release_4 hu4 hu1 hu2
    obtain ⟨bk2,o2,s2,c2,hsb,z0,z1,z2,hty⟩:=Hb.out.kid' (j:=1) (x:=tF y) (by rw [hby];rfl)
    have hlen:(1:Int) < ((tF b).kids.length:Int):=by rw [hby];simp [tF,T.kids]
    have HY:Hid (∀ w',Chg Nob W2 w'→w'.cell? ⟨bk2,o2+1 * 3,none⟩=some (.int .i64 (tF y).kind)∧w'.cell? ⟨bk2,o2+1 * 3+1,none⟩=some (.string ⟨(tF y).name.toArray⟩)∧w'.cell? ⟨bk2,o2+1 * 3+2,none⟩=some (.slice s2 (tF y).kids.length c2)∧IsTree R w' (tF y) (.agg #[.int .i64 (tF y).kind,.string ⟨(tF y).name.toArray⟩,.slice s2 (tF y).kids.length c2])) :=
     (show ∀ w',Chg Nob W2 w'→_ from fun w' h=>⟨(HcW.out.trans1 h).cell' z0 (fun e=>e),(HcW.out.trans1 h).cell' z1 (fun e=>e),(HcW.out.trans1 h).cell' z2 (fun e=>e),hty.nob (HcW.out.trans1 h)⟩)
    have HA2:Hid (∀ w',Chg Nob W2 w'→IsTree R w' (tF .ff) (.agg #[.int .i64 (tF a).kind,.string ⟨(tF a).name.toArray⟩,.slice sa (tF a).kids.length ca])) :=
     (show ∀ w',Chg Nob W2 w'→_ from fun w' h=>by rw [← ha1];exact Ha.out.nob (HcW.out.trans1 h))
    have HrecY:=Lib.hid (Hrec.out x y hby)
    have HE:=Lib.hid hE
    clear z0 z1 z2 hty hby ha1 hE
    rw [Nat.one_mul] at HY
    obtain ⟨z0,z1,z2,ty⟩:=HY.out _ hcur
    clear ty
    subst hsb
    have hS0:=(⟨x0,x1,x2,y2,z0,z1,z2⟩:wc.cell? ⟨p,0,none⟩=some (.int .i64 (tF a).kind)∧wc.cell? ⟨p,1,none⟩=some (.string ⟨(tF a).name.toArray⟩)∧wc.cell? ⟨p,2,none⟩=some (.slice sa (tF a).kids.length ca)∧wc.cell? ⟨q,2,none⟩=some (.slice (some ⟨bk2,o2,none⟩) (tF b).kids.length cb)∧wc.cell? ⟨bk2,o2+3,none⟩=some (.int .i64 (tF y).kind)∧wc.cell? ⟨bk2,o2+3+1,none⟩=some (.string ⟨(tF y).name.toArray⟩)∧wc.cell? ⟨bk2,o2+3+2,none⟩=some (.slice s2 (tF y).kids.length c2))
    have Hcur:=Lib.hid hcur
    clear x0 x1 x2 y0 y1 y2 z0 z1 z2 ta tb hcur
    have hS9:Hid (∀ w',Chg Nob wc w'→w'.cell? ⟨p,0,none⟩=some (.int .i64 (tF a).kind)∧w'.cell? ⟨p,1,none⟩=some (.string ⟨(tF a).name.toArray⟩)∧w'.cell? ⟨p,2,none⟩=some (.slice sa (tF a).kids.length ca)∧w'.cell? ⟨q,2,none⟩=some (.slice (some ⟨bk2,o2,none⟩) (tF b).kids.length cb)∧w'.cell? ⟨bk2,o2+3,none⟩=some (.int .i64 (tF y).kind)∧w'.cell? ⟨bk2,o2+3+1,none⟩=some (.string ⟨(tF y).name.toArray⟩)∧w'.cell? ⟨bk2,o2+3+2,none⟩=some (.slice s2 (tF y).kids.length c2)):=(show ∀ w',Chg Nob wc w'→_ from fun w' h=>by
     obtain ⟨g0,g1,g2,g3,g4,g5,g6⟩:=hS0
     exact ⟨h.cell' g0 (fun e=>e),h.cell' g1 (fun e=>e),h.cell' g2 (fun e=>e),h.cell' g3 (fun e=>e),h.cell' g4 (fun e=>e),h.cell' g5 (fun e=>e),h.cell' g6 (fun e=>e)⟩)
    obtain ⟨g0,g1,g2,g3,g4,g5,g6⟩:=hS9.out wc.drew (Chg.refl _ _).drew
    clear hS0
    go_wp2_with fail
    refine wp_region_free (fun j=>j != 7) (fun w'=>w'.cell? ⟨p,0,none⟩=some (.int .i64 (tF a).kind)∧w'.cell? ⟨p,1,none⟩=some (.string ⟨(tF a).name.toArray⟩)∧w'.cell? ⟨p,2,none⟩=some (.slice sa (tF a).kids.length ca)∧w'.cell? ⟨q,2,none⟩=some (.slice (some ⟨bk2,o2,none⟩) (tF b).kids.length cb)∧w'.cell? ⟨bk2,o2+3,none⟩=some (.int .i64 (tF y).kind)∧w'.cell? ⟨bk2,o2+3+1,none⟩=some (.string ⟨(tF y).name.toArray⟩)∧w'.cell? ⟨bk2,o2+3+2,none⟩=some (.slice s2 (tF y).kids.length c2)) (by kernel_rfl) ⟨g0,g1,g2,g3,g4,g5,g6⟩ (fun hHeld=>?_)
    refine tkG 0 hHeld ?_
    refine tkG 1 hHeld ?_
    refine tkG 2 hHeld ?_
    refine tkG 3 hHeld ?_
    refine tkG 4 hHeld ?_
    refine rdG 5 fun K hK=>?_
    go_simp
    (with_reducible refine (two_any 13 _ _ _ _ _ _ _).mono ?_)
    rintro e w5 ⟨rfl,hc5,hn5⟩
    have hc5':Chg Nob wc w5:=(Chg.refl Nob wc).drew.trans1 hc5
    have hsz5:=(Array.getElem?_eq_some_iff.1 hn5).1
    have hlt5:w.heap.size+2≤wc.heap.size:=by have h1:=HcW.out.size;have h2:=Hcur.out.size;have h3:=Hsz.out;have h4:=hcut1.out.size;omega
    have hwd:wc.drew.heap.size=wc.heap.size:=rfl
    rw [hwd] at hn5 hsz5 ⊢
    have hT5:IsTree (fun b=>R b∨(wc.heap.size≤b∧b < w5.heap.size)) w5 (.node 13 [] [tF .ff,tF y]) _:=IsTree.two' (k:=13) (IsTree.mono (fun _ _ _ h=>h) (fun _ hb=> .inl hb) _ _ (HA2.out w5 (Hcur.out.trans1 hc5'))) (IsTree.mono (fun _ _ _ h=>h) (fun _ hb=> .inl hb) _ _ ((HY.out w5 (Hcur.out.trans1 hc5')).2.2.2)) hn5 (.inr ⟨by omega,hsz5⟩)
    have hp6:=HrecY.out _ w5 _ (fun b hb=>by rcases hb with hb | hb;have h1:=HR.out b hb;have h2:=HcW.out.size;have h3:=Hcur.out.size;have h4:=hc5'.size;omega;exact hb.2) hT5
    have Hp6:=Lib.hid hp6
    have Hc5:=Lib.hid hc5'
    have Hlt5:=Lib.hid hlt5
    clear hp6 hT5 hc5 hc5' hn5 hsz5 hlt5 hwd
    have hS5:=hS9.out w5 Hc5.out
    refine hK.out _ _ (fun _=>hS5) ?_
    clear hK K
    try simp only [Act.put]
    refine rdG 6 fun K hK=>?_
    go_simp
    (with_reducible refine Hp6.out.mono ?_)
    rintro e w6 ⟨hc6,v6,rfl,hT6⟩
    obtain ⟨a6,k6,e6⟩:=hT6.agg'
    subst e6
    have Hc6:=Lib.hid (Hc5.out.trans1 hc6)
    have HT6:=Lib.hid hT6
    have Hs6:=Lib.hid hc6.size
    clear hc6 hT6
    have hS6:=hS9.out w6 Hc6.out
    refine hK.out _ _ (fun _=>hS6) ?_
    clear hK K
    try simp only [Act.put]
    refine rdG 7 fun K hK=>?_
    have hRb:=(Hv2.out _ (Hcur.out.trans1 Hc6.out)).2
    obtain ⟨r0,r1,r2,f0,f1,f2⟩:=cells_three hRb
    have k7:=chg_three w6 (w.heap.size+1) (.int .i64 (tF (PL.releaseF .ff y)).kind) (.string ⟨(tF (PL.releaseF .ff y)).name.toArray⟩) (.slice a6 (tF (PL.releaseF .ff y)).kids.length k6)
    have hfin:Chg Nob w _:=((((HcW.out.trans1 Hcur.out).trans1 Hc6.out).any (S:=At1 (w.heap.size+1))).trans1 k7).mono (fun i hi e=>by have e:i=w.heap.size+1:=e;omega)
    have HT7:Hid (IsTree _ _ _ _):=Lib.hid (IsTree.mono (R':=NewIn R w ((((w6.setCell ⟨w.heap.size+1,0,none⟩ (.int .i64 (tF (PL.releaseF .ff y)).kind)).setCell ⟨w.heap.size+1,1,none⟩ (.string ⟨(tF (PL.releaseF .ff y)).name.toArray⟩)).setCell ⟨w.heap.size+1,2,none⟩ (.slice a6 (tF (PL.releaseF .ff y)).kids.length k6)))) (fun a v hb h=>k7.cell' h (fun e=>by have e:a.block=w.heap.size+1:=e;have h1:=Hlt5.out;have h2:=Hc5.out.size;rcases hb with (hb | hb) | hb;have h3:=HR.out _ hb;omega;omega;omega)) (fun b hb=>by have h1:=Hlt5.out;have h2:=Hc5.out.size;have h4:=Hs6.out;have h5:=k7.size;rcases hb with (hb | hb) | hb;exact .inl hb;exact .inr ⟨by omega,by omega⟩;exact .inr ⟨by omega,by omega⟩) _ _ HT6.out)
    have Hfin:=Lib.hid hfin
    have HR3:=Lib.hid (block_three_all hRb (.int .i64 (tF (PL.releaseF .ff y)).kind) (.string ⟨(tF (PL.releaseF .ff y)).name.toArray⟩) (.slice a6 (tF (PL.releaseF .ff y)).kids.length k6))
    clear hRb hfin k7
    go_simp
    refine hK.out _ _ (fun h=>absurd h (by decide)) ?_
    clear hK K r0 r1 r2 f0 f1 f2
    try simp only [Act.put]
    refine wpAnyG_done (by kernel_rfl) ?_ _
    go_simp
    go_wp2_with fail
    refine bodyPost_ret (results89 rfl HR3.out) rfl ⟨Hfin.out,_,rfl,?_⟩
    rw [HE.out]
    exact HT7.out
theorem releaseP_any (a:F):∀ (b:F) (R:Nat→Prop) (w:World) (v:Value),(∀ b,R b→b < w.heap.size)→IsTree R w (.node 13 [] [tF a,tF b]) v→Calls Tryz.prog 89 #[v] w (FPost R (PL.releaseF a b) w):=by
 have key:∀ (b:F) (a:F) (R:Nat→Prop) (w:World) (v:Value),(∀ b,R b→b < w.heap.size)→IsTree R w (.node 13 [] [tF a,tF b]) v→Calls Tryz.prog 89 #[v] w (FPost R (PL.releaseF a b) w):=by
  intro b
  induction b with
  | re x y _ ih=>exact fun a R w v hR hv=>release_step hR hv (fun x' y' e=>by cases e;exact ih .ff)
  | _=>exact fun a R w v hR hv=>release_step hR hv (fun x' y' e=>by cases e)
 exact fun b=>key b a
set_option maxRecDepth 512
theorem flat_at {vs:List Value} (hv:∀ v∈vs,(vc v).length=3):∀ {i:Nat} {v:Value},vs[i]? = some v→∀ {q:Nat},q < 3→(vs.flatMap vc)[i * 3+q]? = (vc v)[q]?:=by
 induction vs with
 | nil=>intro i v h;simp at h
 | cons x vs ih =>
   intro i v h q hq
   rw [List.flatMap_cons]
   have h3:=hv x List.mem_cons_self
   cases i with
   | zero =>
     obtain rfl:x=v:=by simpa using h
     rw [Nat.zero_mul,Nat.zero_add,List.getElem?_append_left (by omega)]
   | succ i =>
     rw [List.getElem?_append_right (by omega),h3,show (i+1) * 3+q - 3=i * 3+q by omega]
     exact ih (fun v hv'=>hv v (List.mem_cons_of_mem _ hv')) (by simpa using h) hq
theorem kids_of_row {R:Nat→Prop} {W:World} {kids:List T} {vs:List Value} {B0 n:Nat} {sl:Value} (hrow:W.ownsRow B0 24 3 sl n (vs.flatMap vc)) (hl:vs.length=n) (hkl:kids.length=n)
 (ht:∀ (i:Nat) (t:T) (v:Value),kids[i]? = some t→vs[i]? = some v→IsTree R W t v) (hg:∀ g,sl.ownBlock=some g→R g):∃ ao cap,sl = .slice ao n cap∧IsKids R W ao 0 kids:=by
 obtain ⟨ao,cap,rfl⟩:=ownsRow_shape hrow
 refine ⟨ao,cap,rfl,IsKids.mk kids 0 (fun j t hj=>?_)⟩
 have hjn:j < n:=by rw [← hkl];exact (List.getElem?_eq_some_iff.1 hj).1
 obtain ⟨v,hv⟩:∃ v,vs[j]? = some v:=⟨_,List.getElem?_eq_getElem (by omega)⟩
 have htree:=ht j t v hj hv
 obtain ⟨ak,ck,rfl,_,_⟩:=htree.parts
 have hvc:∀ x∈vs,(vc x).length=3:=by
  intro x hx
  obtain ⟨i,hi⟩:=List.getElem?_of_mem hx
  have hin:i < kids.length:=by have:=(List.getElem?_eq_some_iff.1 hi).1;omega
  exact vc_tree (ht i _ x (List.getElem?_eq_getElem hin) hi)
 obtain ⟨g,cap',e,hc⟩:=ownsRow_some hrow (by omega)
 cases e
 have c0:=hc (j * 3+0) _ (by rw [flat_at hvc hv (by omega)];rfl)
 have c1:=hc (j * 3+1) _ (by rw [flat_at hvc hv (by omega)];rfl)
 have c2:=hc (j * 3+2) _ (by rw [flat_at hvc hv (by omega)];rfl)
 rw [Go.WideShapes.add_plain] at c0 c1 c2
 rw [Nat.zero_add]
 exact ⟨g,0,t.kind,⟨t.name.toArray⟩,_,rfl,hg g rfl,c0,by rw [Nat.add_assoc];exact c1,by rw [Nat.add_assoc];exact c2,htree⟩
structure SmRow (R:Nat→Prop) (lo:Nat) (kids:List T) (j:Nat) (sl:Value) (vs:List Value) (wr:World):Prop where
 len:vs.length=j
 row:wr.ownsRow lo 24 3 sl j (vs.flatMap vc)
 trees:∀ (i:Nat) (t:T) (v:Value),kids[i]? = some t→vs[i]? = some v→IsTree (fun b=>(R b∨(lo≤b∧b < wr.heap.size))∧sl.ownBlock≠some b) wr t v
theorem SmRow.next {R:Nat→Prop} {lo:Nat} {kids:List T} {j:Nat} {sl:Value} {vs:List Value} {wr w3 w4 w6:World} {x:T} {v a b c:Value} {g' cap:Nat} (h:SmRow R lo kids j sl vs wr) (hRlo:∀ b,R b→b < lo) (hlo:lo≤wr.heap.size) (hx:kids[j]? = some x)
 (hc3:Chg Nob wr w3) (hc4:Chg Nob w3 w4) (ht:IsTree (NewIn R w3 w4) w4 x v) (hv:v = .agg #[a,b,c])
 (hr6:w6.ownsRow lo 24 3 (.slice (some ⟨g',0,none⟩) (j+1) cap) (j+1) (vs.flatMap vc++[a,b,c])) (hgr:(w4.alloc (.cells #[a,b,c] 24)).grownBy w6 sl.ownBlock) (hlies:sl.ownBlock=some g'∨g'=(w4.alloc (.cells #[a,b,c] 24)).heap.size) :
 SmRow R lo kids (j+1) (.slice (some ⟨g',0,none⟩) (j+1) cap) (vs++[v]) w6∧Chg (fun q=>lo≤q) wr w6:=by
 subst hv
 have hz3:=hc3.size
 have hz4:=hc4.size
 have hz5:(w4.alloc (.cells #[a,b,c] 24)).heap.size=w4.heap.size+1:=World.size_alloc _ _
 have hown:∀ q,sl.ownBlock=some q→lo≤q∧q < wr.heap.size:=fun q hq=>h.row.lt q hq
 have hc56:Chg (fun q=>sl.ownBlock=some q) (w4.alloc (.cells #[a,b,c] 24)) w6:=(Chg.refl _ _).grown hgr (fun q hq _=>hq)
 have hc46:Chg (fun q=>sl.ownBlock=some q) w4 w6:=((Chg.refl Nob w4).alloc _).any.trans1 hc56
 have hcr6:Chg (fun q=>sl.ownBlock=some q) wr w6:=(hc3.trans1 hc4).any.trans1 hc46
 have hz6:=hc56.size
 refine ⟨⟨by rw [List.length_append,h.len];rfl,?_,fun i t u hi hu=>?_⟩,hcr6.mono (fun q _ e=>(hown q e).1)⟩
 ·rw [List.flatMap_append]
  simpa [vc] using hr6
 ·by_cases hij:i < vs.length
  ·rw [List.getElem?_append_left hij] at hu
   refine IsTree.mono (fun p val hp hval=>hcr6.cell' hval (fun e=>hp.2 e)) (fun q hq=>⟨?_,?_⟩) t u (h.trees i t u hi hu)
   ·rcases hq.1 with e | e
    ·exact .inl e
    ·exact .inr ⟨e.1,by omega⟩
   ·intro e
    have e:g'=q:=by simpa [Value.ownBlock] using e
    rcases hlies with e2 | e2
    ·exact hq.2 (by rw [e2,e])
    ·rcases hq.1 with e3 | e3
     ·have:=hRlo q e3;omega
     ·omega
  ·have hi2:i=vs.length:=by
    have:=(List.getElem?_eq_some_iff.1 hu).1
    rw [List.length_append] at this
    simp only [List.length_cons,List.length_nil] at this
    omega
   subst hi2
   rw [List.getElem?_append_right (Nat.le_refl _),Nat.sub_self] at hu
   obtain rfl:Value.agg #[a,b,c]=u:=by simpa using hu
   rw [h.len,hx] at hi
   cases hi
   have hnot:∀ q,NewIn R w3 w4 q→¬ sl.ownBlock=some q:=fun q hq e=>by
    have:=hown q e
    rcases hq with e3 | e3
    ·have:=hRlo q e3;omega
    ·omega
   refine IsTree.mono (fun p val hp hval=>hc46.cell' hval (hnot _ hp)) (fun q hq=>⟨?_,?_⟩) x _ ht
   ·rcases hq with e | e
    ·exact .inl e
    ·exact .inr ⟨by omega,by omega⟩
   ·intro e
    have e:g'=q:=by simpa [Value.ownBlock] using e
    rcases hlies with e2 | e2
    ·exact hnot q hq (by rw [e2,e])
    ·rcases hq with e3 | e3
     ·have:=hRlo q e3;omega
     ·omega
def kidsF:F→List F
 | .np n=>[.pr n]
 | .nx a=>[a]
 | .an a b | .or a b | .un a b | .re a b=>[a,b]
 | _=>[]
theorem tF_kids (f:F):(tF f).kids=(kidsF f).map tF:=by cases f <;> rfl
theorem kidsF_size {f g:F} (h:g∈kidsF f):PL.sizeF g < PL.sizeF f:=by
 cases f <;> simp [kidsF] at h
 all_goals first | (subst h;simp [PL.sizeF];done) | (rcases h with rfl | rfl <;> (simp [PL.sizeF];omega))
end Go.Proofs.YtkgfdgfhpdhhaaaGreat
