/- ltl's opposite: is one formula the negation of the other one? Conditions: both lie in the world. -/
import Derived.Test.YtkgfdgfhpdhhaaaGreatT26
namespace Go.Proofs.YtkgfdgfhpdhhaaaGreat
open Go.ChangeShapes Go.WideShapes Go.RowKit
open PL (F)
set_option maxRecDepth 100000
set_option maxHeartbeats 8000000
theorem kF_np {b:F} (h:(tF b).kind=4):∃ n,b = .np n:=by
 cases b <;> first | exact ⟨_,rfl⟩ | (simp [tF,T.kind] at h)
theorem beq_dec (a b:List UInt8):(a==b)=decide (a=b):=by
 by_cases h:a=b
 ·subst h;simp
 ·rw [decide_eq_false h,beq_eq_false_iff_ne];exact h
theorem opp_no {a b:F} (h1:((tF a).kind==4)=false) (h2:((tF b).kind==4)=false):PL.oppF a b=false:=by
 cases a <;> cases b <;> first | rfl | (exact Bool.noConfusion (show true=false from h1)) | (exact Bool.noConfusion (show true=false from h2))
theorem opp_left {n:List UInt8} {b:F} (h2:((tF b).kind==4)=false):PL.oppF (.np n) b=sameT (.node 3 n []) (tF b):=by
 rw [show T.node 3 n []=tF (.pr n) from rfl,sameT_tF]
 cases b <;> first | (exact Bool.noConfusion (show true=false from h2)) | (rw [PL.oppF,beq_dec];simp;done) | (simp [PL.oppF];done)
theorem opp_right {n:List UInt8} {a:F} (h1:((tF a).kind==4)=false):PL.oppF a (.np n)=sameT (.node 3 n []) (tF a):=by
 rw [show T.node 3 n []=tF (.pr n) from rfl,sameT_tF]
 cases a <;> first | (exact Bool.noConfusion (show true=false from h1)) | (rw [PL.oppF,beq_dec];simp [eq_comm];done) | (simp [PL.oppF];done)
theorem same_np (n m:List UInt8):sameT (.node 3 n []) (.node 4 [] [.node 3 m []])=false:=by
 rw [sameT_eq];rfl
theorem opposite_any {a b:F} {va vb:Value} {w:World} (ha:TI w (tF a) va) (hb:TI w (tF b) vb) :
 Calls Tryz.prog 139 #[va,vb] w fun e w'=>e = .returned (.bool (PL.oppF a b))∧Chg Nob w w':=by
 obtain ⟨aa,ca,rfl⟩:=ha.agg
 obtain ⟨ab,cb,rfl⟩:=hb.agg
 obtain ⟨W,hWe,hcW,hsW,hA,hB⟩:=box_kid w (.int .i64 (tF a).kind) (.string ⟨(tF a).name.toArray⟩) (.slice aa (tF a).kids.length ca) (.int .i64 (tF b).kind) (.string ⟨(tF b).name.toArray⟩) (.slice ab (tF b).kids.length cb)
 have Hc:=Lib.hid hcW
 have Ha:=Lib.hid (ha.nob hcW)
 have Hb:=Lib.hid (hb.nob hcW)
 have hx:∀ w',Chg Nob W w'→w'.cell? ⟨w.heap.size,0,none⟩=some (.int .i64 (tF a).kind)∧w'.cell? ⟨w.heap.size,1,none⟩=some (.string ⟨(tF a).name.toArray⟩)∧w'.cell? ⟨w.heap.size,2,none⟩=some (.slice aa (tF a).kids.length ca) ∧
  w'.cell? ⟨w.heap.size+1,0,none⟩=some (.int .i64 (tF b).kind)∧w'.cell? ⟨w.heap.size+1,1,none⟩=some (.string ⟨(tF b).name.toArray⟩)∧w'.cell? ⟨w.heap.size+1,2,none⟩=some (.slice ab (tF b).kids.length cb):=fun w' h=>by
  obtain ⟨a0,a1,a2,_⟩:=cells_three (h.at hA (fun e=>e))
  obtain ⟨b0,b1,b2,_⟩:=cells_three (h.at hB (fun e=>e))
  exact ⟨a0,a1,a2,b0,b1,b2⟩
 have Hx:=Lib.hid hx
 clear ha hb hcW hsW hA hB hx
 cases ha:((tF a).kind==4) with
 | false =>
   cases hb:((tF b).kind==4) with
   | false =>
     have Hr:=Lib.hid (opp_no ha hb)
     have hSx:Hid (∀ w',Chg Nob W w'→w'.cell? ⟨w.heap.size,0,none⟩=some (.int .i64 (tF a).kind)∧w'.cell? ⟨w.heap.size,1,none⟩=some (.string ⟨(tF a).name.toArray⟩)∧w'.cell? ⟨w.heap.size,2,none⟩=some (.slice aa (tF a).kids.length ca)∧w'.cell? ⟨w.heap.size+1,0,none⟩=some (.int .i64 (tF b).kind)∧w'.cell? ⟨w.heap.size+1,1,none⟩=some (.string ⟨(tF b).name.toArray⟩)∧w'.cell? ⟨w.heap.size+1,2,none⟩=some (.slice ab (tF b).kids.length cb)):=(show ∀ w',Chg Nob W w'→_ from fun w' h=>⟨(Hx.out w' h).1,(Hx.out w' h).2.1,(Hx.out w' h).2.2.1,(Hx.out w' h).2.2.2.1,(Hx.out w' h).2.2.2.2.1,(Hx.out w' h).2.2.2.2.2⟩)
     obtain ⟨a0,a1,a2,b0,b1,b2⟩:=hSx.out W.drew (Chg.refl _ _).drew
     go_enter Tryz.func139,Tryz.ntmps139
     go_wp2_with fail
     rw [← hWe]
     clear hWe
     refine wp_region_free (fun _=>true) (fun w'=>w'.cell? ⟨w.heap.size,0,none⟩=some (.int .i64 (tF a).kind)∧w'.cell? ⟨w.heap.size,1,none⟩=some (.string ⟨(tF a).name.toArray⟩)∧w'.cell? ⟨w.heap.size,2,none⟩=some (.slice aa (tF a).kids.length ca)∧w'.cell? ⟨w.heap.size+1,0,none⟩=some (.int .i64 (tF b).kind)∧w'.cell? ⟨w.heap.size+1,1,none⟩=some (.string ⟨(tF b).name.toArray⟩)∧w'.cell? ⟨w.heap.size+1,2,none⟩=some (.slice ab (tF b).kids.length cb)) (by kernel_rfl) ⟨a0,a1,a2,b0,b1,b2⟩ (fun hHeld=>?_)
     refine tkG 0 hHeld ?_
     refine tkG 1 hHeld ?_
     refine tkG 2 hHeld ?_
     refine tkG 3 hHeld ?_
     refine wpAnyG_take (i:=4) (v:=undef) rfl (by kernel_rfl) (fun _ _ _ h=>h) (Or.inr ⟨by kernel_rfl,rfl⟩) hHeld ?_
     try simp only [Act.put]
     refine wpAnyG_take (i:=5) (v:=undef) rfl (by kernel_rfl) (fun _ _ _ h=>h) (Or.inr ⟨by kernel_rfl,rfl⟩) hHeld ?_
     try simp only [Act.put]
     refine wpAnyG_take (i:=6) (v:=undef) rfl (by kernel_rfl) (fun _ _ _ h=>h) (Or.inr ⟨by kernel_rfl,rfl⟩) hHeld ?_
     try simp only [Act.put]
     refine wpAnyG_take (i:=7) (v:=undef) rfl (by kernel_rfl) (fun _ _ _ h=>h) (Or.inr ⟨by kernel_rfl,rfl⟩) hHeld ?_
     try simp only [Act.put]
     refine wpAnyG_take (i:=8) (v:=undef) rfl (by kernel_rfl) (fun _ _ _ h=>h) (Or.inr ⟨by kernel_rfl,rfl⟩) hHeld ?_
     try simp only [Act.put]
     refine wpAnyG_ready (rs:=[9]) (by kernel_rfl) (by simp) ?_
     refine AllReadyG.cons rfl (fun K hK=>?_) AllReadyG.nil
     rw [if_neg (Bool.eq_false_iff.1 (by kernel_rfl))]
     refine hK.out _ _ (fun _=>hHeld) ?_
     clear hK K
     try simp only [Act.put]
     refine tkG 10 hHeld ?_
     refine tkG 11 hHeld ?_
     refine tkG 12 hHeld ?_
     refine tkG 13 hHeld ?_
     refine tkG 14 hHeld ?_
     refine tkG 15 hHeld ?_
     refine wpAnyG_take (i:=16) (v:=undef) rfl (by kernel_rfl) (fun _ _ _ h=>h) (Or.inr ⟨by kernel_rfl,rfl⟩) hHeld ?_
     try simp only [Act.put]
     refine wpAnyG_take (i:=17) (v:=undef) rfl (by kernel_rfl) (fun _ _ _ h=>h) (Or.inr ⟨by kernel_rfl,rfl⟩) hHeld ?_
     try simp only [Act.put]
     refine wpAnyG_take (i:=18) (v:=undef) rfl (by kernel_rfl) (fun _ _ _ h=>h) (Or.inr ⟨by kernel_rfl,rfl⟩) hHeld ?_
     try simp only [Act.put]
     refine wpAnyG_take (i:=19) (v:=undef) rfl (by kernel_rfl) (fun _ _ _ h=>h) (Or.inr ⟨by kernel_rfl,rfl⟩) hHeld ?_
     try simp only [Act.put]
     refine wpAnyG_take (i:=20) (v:=undef) rfl (by kernel_rfl) (fun _ _ _ h=>h) (Or.inr ⟨by kernel_rfl,rfl⟩) hHeld ?_
     try simp only [Act.put]
     refine wpAnyG_ready (rs:=[21]) (by kernel_rfl) (by simp) ?_
     refine AllReadyG.cons rfl (fun K hK=>?_) AllReadyG.nil
     rw [if_neg (Bool.eq_false_iff.1 (by kernel_rfl))]
     refine hK.out _ _ (fun _=>hHeld) ?_
     clear hK K
     try simp only [Act.put]
     refine tkG 22 hHeld ?_
     refine tkG 23 hHeld ?_
     refine tkG 24 hHeld ?_
     refine wpAnyG_done (by kernel_rfl) ?_ _
     go_simp
     go_wp2_with fail
     go_ret
     exact ⟨by rw [Hr.out];rfl,Hc.out.trans1 (Chg.refl Nob W).drew⟩
   | true =>
     obtain ⟨bn,hbn⟩:=kF_np (b:=b) (by simpa using hb)
     have hlb:(tF b).kids=[.node 3 bn []]:=by rw [hbn];rfl
     obtain ⟨bk,bo,bq,bc,eb,c0,c1,c2,hxb⟩:=Hb.out.kid (j:=0) (x:= .node 3 bn []) (by rw [hlb];rfl)
     rw [Nat.zero_mul,Nat.add_zero] at c0 c1 c2
     have hlenb:0 < (tF b).kids.length:=by rw [hlb];simp
     have Hbk:Hid (∀ w',Chg Nob W w'→w'.cell? ⟨bk,bo,none⟩=some (.int .i64 3)∧w'.cell? ⟨bk,bo+1,none⟩=some (.string ⟨bn.toArray⟩)∧w'.cell? ⟨bk,bo+2,none⟩=some (.slice bq 0 bc)∧TI w' (.node 3 bn []) (.agg #[.int .i64 3,.string ⟨bn.toArray⟩,.slice bq 0 bc])):=(show ∀ w',Chg Nob W w'→_ from fun w' h=>⟨h.cell' c0 (fun e=>e),h.cell' c1 (fun e=>e),h.cell' c2 (fun e=>e),hxb.nob h⟩)
     subst eb
     clear c0 c1 c2 hxb hlb
     have Hr:Hid (PL.oppF a b=sameT (.node 3 bn []) (tF a)):=(show PL.oppF a b=_ by rw [hbn];exact opp_right ha)
     clear hbn
     have hSx:Hid (∀ w',Chg Nob W w'→w'.cell? ⟨w.heap.size,0,none⟩=some (.int .i64 (tF a).kind)∧w'.cell? ⟨w.heap.size,1,none⟩=some (.string ⟨(tF a).name.toArray⟩)∧w'.cell? ⟨w.heap.size,2,none⟩=some (.slice aa (tF a).kids.length ca)∧w'.cell? ⟨w.heap.size+1,0,none⟩=some (.int .i64 (tF b).kind)∧w'.cell? ⟨w.heap.size+1,1,none⟩=some (.string ⟨(tF b).name.toArray⟩)∧w'.cell? ⟨w.heap.size+1,2,none⟩=some (.slice (some ⟨bk,bo,none⟩) (tF b).kids.length cb)∧w'.cell? ⟨bk,bo,none⟩=some (.int .i64 3)∧w'.cell? ⟨bk,bo+1,none⟩=some (.string ⟨bn.toArray⟩)∧w'.cell? ⟨bk,bo+2,none⟩=some (.slice bq 0 bc)):=(show ∀ w',Chg Nob W w'→_ from fun w' h=>⟨(Hx.out w' h).1,(Hx.out w' h).2.1,(Hx.out w' h).2.2.1,(Hx.out w' h).2.2.2.1,(Hx.out w' h).2.2.2.2.1,(Hx.out w' h).2.2.2.2.2,(Hbk.out w' h).1,(Hbk.out w' h).2.1,(Hbk.out w' h).2.2.1⟩)
     obtain ⟨a0,a1,a2,b0,b1,b2,kb0,kb1,kb2⟩:=hSx.out W.drew (Chg.refl _ _).drew
     go_enter Tryz.func139,Tryz.ntmps139
     go_wp2_with fail
     rw [← hWe]
     clear hWe
     refine wp_region_free (fun _=>true) (fun w'=>w'.cell? ⟨w.heap.size,0,none⟩=some (.int .i64 (tF a).kind)∧w'.cell? ⟨w.heap.size,1,none⟩=some (.string ⟨(tF a).name.toArray⟩)∧w'.cell? ⟨w.heap.size,2,none⟩=some (.slice aa (tF a).kids.length ca)∧w'.cell? ⟨w.heap.size+1,0,none⟩=some (.int .i64 (tF b).kind)∧w'.cell? ⟨w.heap.size+1,1,none⟩=some (.string ⟨(tF b).name.toArray⟩)∧w'.cell? ⟨w.heap.size+1,2,none⟩=some (.slice (some ⟨bk,bo,none⟩) (tF b).kids.length cb)∧w'.cell? ⟨bk,bo,none⟩=some (.int .i64 3)∧w'.cell? ⟨bk,bo+1,none⟩=some (.string ⟨bn.toArray⟩)∧w'.cell? ⟨bk,bo+2,none⟩=some (.slice bq 0 bc)) (by kernel_rfl) ⟨a0,a1,a2,b0,b1,b2,kb0,kb1,kb2⟩ (fun hHeld=>?_)
     refine tkG 0 hHeld ?_
     refine tkG 1 hHeld ?_
     refine tkG 2 hHeld ?_
     refine tkG 3 hHeld ?_
     refine wpAnyG_take (i:=4) (v:=undef) rfl (by kernel_rfl) (fun _ _ _ h=>h) (Or.inr ⟨by kernel_rfl,rfl⟩) hHeld ?_
     try simp only [Act.put]
     refine wpAnyG_take (i:=5) (v:=undef) rfl (by kernel_rfl) (fun _ _ _ h=>h) (Or.inr ⟨by kernel_rfl,rfl⟩) hHeld ?_
     try simp only [Act.put]
     refine wpAnyG_take (i:=6) (v:=undef) rfl (by kernel_rfl) (fun _ _ _ h=>h) (Or.inr ⟨by kernel_rfl,rfl⟩) hHeld ?_
     try simp only [Act.put]
     refine wpAnyG_take (i:=7) (v:=undef) rfl (by kernel_rfl) (fun _ _ _ h=>h) (Or.inr ⟨by kernel_rfl,rfl⟩) hHeld ?_
     try simp only [Act.put]
     refine wpAnyG_take (i:=8) (v:=undef) rfl (by kernel_rfl) (fun _ _ _ h=>h) (Or.inr ⟨by kernel_rfl,rfl⟩) hHeld ?_
     try simp only [Act.put]
     refine wpAnyG_ready (rs:=[9]) (by kernel_rfl) (by simp) ?_
     refine AllReadyG.cons rfl (fun K hK=>?_) AllReadyG.nil
     rw [if_neg (Bool.eq_false_iff.1 (by kernel_rfl))]
     refine hK.out _ _ (fun _=>hHeld) ?_
     clear hK K
     try simp only [Act.put]
     refine tkG 10 hHeld ?_
     refine tkG 11 hHeld ?_
     refine tkG 12 hHeld ?_
     refine tkG 13 hHeld ?_
     refine tkG 14 hHeld ?_
     refine tkG 15 hHeld ?_
     refine tkG 16 hHeld ?_
     refine tkG 17 hHeld ?_
     refine tkG 18 hHeld ?_
     refine tkG 19 hHeld ?_
     refine tkG 20 hHeld ?_
     refine rdG 21 fun K hK=>?_
     go_simp
     (with_reducible refine (same_ti (Hbk.out _ (Chg.refl Nob W).drew).2.2.2 (Ha.out.nob (Chg.refl Nob W).drew)).mono ?_)
     rintro e w5 ⟨rfl,hc5⟩
     have Hc5:=Lib.hid (Chg.trans1 (Chg.refl Nob W).drew hc5)
     have hS5:=hSx.out w5 Hc5.out
     refine hK.out _ _ (fun _=>hS5) ?_
     clear hK K hc5
     try simp only [Act.put]
     refine tkG 22 hS5 ?_
     refine tkG 23 hS5 ?_
     refine tkG 24 hS5 ?_
     refine wpAnyG_done (by kernel_rfl) ?_ _
     go_simp
     go_wp2_with fail
     go_ret
     exact ⟨by rw [Hr.out];rfl,Hc.out.trans1 Hc5.out⟩
 | true =>
   obtain ⟨an,han⟩:=kF_np (b:=a) (by simpa using ha)
   have hla:(tF a).kids=[.node 3 an []]:=by rw [han];rfl
   obtain ⟨ak,ao,aq,ac,ea,c0,c1,c2,hxa⟩:=Ha.out.kid (j:=0) (x:= .node 3 an []) (by rw [hla];rfl)
   rw [Nat.zero_mul,Nat.add_zero] at c0 c1 c2
   have hlena:0 < (tF a).kids.length:=by rw [hla];simp
   have Hak:Hid (∀ w',Chg Nob W w'→w'.cell? ⟨ak,ao,none⟩=some (.int .i64 3)∧w'.cell? ⟨ak,ao+1,none⟩=some (.string ⟨an.toArray⟩)∧w'.cell? ⟨ak,ao+2,none⟩=some (.slice aq 0 ac)∧TI w' (.node 3 an []) (.agg #[.int .i64 3,.string ⟨an.toArray⟩,.slice aq 0 ac])):=(show ∀ w',Chg Nob W w'→_ from fun w' h=>⟨h.cell' c0 (fun e=>e),h.cell' c1 (fun e=>e),h.cell' c2 (fun e=>e),hxa.nob h⟩)
   subst ea
   clear c0 c1 c2 hxa hla
   cases hs:sameT (.node 3 an []) (tF b) with
   | true =>
     have Hr:Hid (PL.oppF a b=true):=(show PL.oppF a b=true by
      rw [han]
      cases hb:((tF b).kind==4) with
      | false=>rw [opp_left hb,hs]
      | true =>
        obtain ⟨m,rfl⟩:=kF_np (b:=b) (by simpa using hb)
        rw [show tF (.np m) = .node 4 [] [.node 3 m []] from rfl,same_np] at hs
        cases hs)
     clear han
     have hSx:Hid (∀ w',Chg Nob W w'→w'.cell? ⟨w.heap.size,0,none⟩=some (.int .i64 (tF a).kind)∧w'.cell? ⟨w.heap.size,1,none⟩=some (.string ⟨(tF a).name.toArray⟩)∧w'.cell? ⟨w.heap.size,2,none⟩=some (.slice (some ⟨ak,ao,none⟩) (tF a).kids.length ca)∧w'.cell? ⟨w.heap.size+1,0,none⟩=some (.int .i64 (tF b).kind)∧w'.cell? ⟨w.heap.size+1,1,none⟩=some (.string ⟨(tF b).name.toArray⟩)∧w'.cell? ⟨w.heap.size+1,2,none⟩=some (.slice ab (tF b).kids.length cb)∧w'.cell? ⟨ak,ao,none⟩=some (.int .i64 3)∧w'.cell? ⟨ak,ao+1,none⟩=some (.string ⟨an.toArray⟩)∧w'.cell? ⟨ak,ao+2,none⟩=some (.slice aq 0 ac)):=(show ∀ w',Chg Nob W w'→_ from fun w' h=>⟨(Hx.out w' h).1,(Hx.out w' h).2.1,(Hx.out w' h).2.2.1,(Hx.out w' h).2.2.2.1,(Hx.out w' h).2.2.2.2.1,(Hx.out w' h).2.2.2.2.2,(Hak.out w' h).1,(Hak.out w' h).2.1,(Hak.out w' h).2.2.1⟩)
     obtain ⟨a0,a1,a2,b0,b1,b2,ka0,ka1,ka2⟩:=hSx.out W.drew (Chg.refl _ _).drew
     go_enter Tryz.func139,Tryz.ntmps139
     go_wp2_with fail
     rw [← hWe]
     clear hWe
     refine wp_region_free (fun _=>true) (fun w'=>w'.cell? ⟨w.heap.size,0,none⟩=some (.int .i64 (tF a).kind)∧w'.cell? ⟨w.heap.size,1,none⟩=some (.string ⟨(tF a).name.toArray⟩)∧w'.cell? ⟨w.heap.size,2,none⟩=some (.slice (some ⟨ak,ao,none⟩) (tF a).kids.length ca)∧w'.cell? ⟨w.heap.size+1,0,none⟩=some (.int .i64 (tF b).kind)∧w'.cell? ⟨w.heap.size+1,1,none⟩=some (.string ⟨(tF b).name.toArray⟩)∧w'.cell? ⟨w.heap.size+1,2,none⟩=some (.slice ab (tF b).kids.length cb)∧w'.cell? ⟨ak,ao,none⟩=some (.int .i64 3)∧w'.cell? ⟨ak,ao+1,none⟩=some (.string ⟨an.toArray⟩)∧w'.cell? ⟨ak,ao+2,none⟩=some (.slice aq 0 ac)) (by kernel_rfl) ⟨a0,a1,a2,b0,b1,b2,ka0,ka1,ka2⟩ (fun hHeld=>?_)
     refine tkG 0 hHeld ?_
     refine tkG 1 hHeld ?_
     refine tkG 2 hHeld ?_
     refine tkG 3 hHeld ?_
     refine tkG 4 hHeld ?_
     refine tkG 5 hHeld ?_
     refine tkG 6 hHeld ?_
     refine tkG 7 hHeld ?_
     refine tkG 8 hHeld ?_
     refine rdG 9 fun K hK=>?_
     go_simp
     (with_reducible refine (same_ti (Hak.out _ (Chg.refl Nob W).drew).2.2.2 (Hb.out.nob (Chg.refl Nob W).drew)).mono ?_)
     rintro e w5 ⟨rfl,hc5⟩
     have Hc5:=Lib.hid (Chg.trans1 (Chg.refl Nob W).drew hc5)
     have hS5:=hSx.out w5 Hc5.out
     refine hK.out _ _ (fun _=>hS5) ?_
     clear hK K hc5
     try simp only [Act.put]
     refine tkG 10 hS5 ?_
     refine tkG 11 hS5 ?_
     refine wpAnyG_take (i:=12) (v:=undef) rfl (by kernel_rfl) (fun _ _ _ h=>h) (Or.inr ⟨by kernel_rfl,rfl⟩) hS5 ?_
     try simp only [Act.put]
     refine wpAnyG_take (i:=13) (v:=undef) rfl (by kernel_rfl) (fun _ _ _ h=>h) (Or.inr ⟨by kernel_rfl,rfl⟩) hS5 ?_
     try simp only [Act.put]
     refine wpAnyG_take (i:=14) (v:=undef) rfl (by kernel_rfl) (fun _ _ _ h=>h) (Or.inr ⟨by kernel_rfl,rfl⟩) hS5 ?_
     try simp only [Act.put]
     refine wpAnyG_take (i:=15) (v:=undef) rfl (by kernel_rfl) (fun _ _ _ h=>h) (Or.inr ⟨by kernel_rfl,rfl⟩) hS5 ?_
     try simp only [Act.put]
     refine wpAnyG_take (i:=16) (v:=undef) rfl (by kernel_rfl) (fun _ _ _ h=>h) (Or.inr ⟨by kernel_rfl,rfl⟩) hS5 ?_
     try simp only [Act.put]
     refine wpAnyG_take (i:=17) (v:=undef) rfl (by kernel_rfl) (fun _ _ _ h=>h) (Or.inr ⟨by kernel_rfl,rfl⟩) hS5 ?_
     try simp only [Act.put]
     refine wpAnyG_take (i:=18) (v:=undef) rfl (by kernel_rfl) (fun _ _ _ h=>h) (Or.inr ⟨by kernel_rfl,rfl⟩) hS5 ?_
     try simp only [Act.put]
     refine wpAnyG_take (i:=19) (v:=undef) rfl (by kernel_rfl) (fun _ _ _ h=>h) (Or.inr ⟨by kernel_rfl,rfl⟩) hS5 ?_
     try simp only [Act.put]
     refine wpAnyG_take (i:=20) (v:=undef) rfl (by kernel_rfl) (fun _ _ _ h=>h) (Or.inr ⟨by kernel_rfl,rfl⟩) hS5 ?_
     try simp only [Act.put]
     refine wpAnyG_ready (rs:=[21]) (by kernel_rfl) (by simp) ?_
     refine AllReadyG.cons rfl (fun K hK=>?_) AllReadyG.nil
     rw [if_neg (Bool.eq_false_iff.1 (by kernel_rfl))]
     refine hK.out _ _ (fun _=>hS5) ?_
     clear hK K
     try simp only [Act.put]
     refine wpAnyG_take (i:=22) (v:=undef) rfl (by kernel_rfl) (fun _ _ _ h=>h) (Or.inr ⟨by kernel_rfl,rfl⟩) hS5 ?_
     try simp only [Act.put]
     refine tkG 23 hS5 ?_
     refine tkG 24 hS5 ?_
     refine wpAnyG_done (by kernel_rfl) ?_ _
     go_simp
     go_wp2_with fail
     go_ret
     exact ⟨by rw [Hr.out];rfl,Hc.out.trans1 Hc5.out⟩
   | false =>
     cases hb:((tF b).kind==4) with
     | false =>
       have Hr:Hid (PL.oppF a b=false):=(show PL.oppF a b=false by rw [han,opp_left hb,hs])
       clear han
       have hSx:Hid (∀ w',Chg Nob W w'→w'.cell? ⟨w.heap.size,0,none⟩=some (.int .i64 (tF a).kind)∧w'.cell? ⟨w.heap.size,1,none⟩=some (.string ⟨(tF a).name.toArray⟩)∧w'.cell? ⟨w.heap.size,2,none⟩=some (.slice (some ⟨ak,ao,none⟩) (tF a).kids.length ca)∧w'.cell? ⟨w.heap.size+1,0,none⟩=some (.int .i64 (tF b).kind)∧w'.cell? ⟨w.heap.size+1,1,none⟩=some (.string ⟨(tF b).name.toArray⟩)∧w'.cell? ⟨w.heap.size+1,2,none⟩=some (.slice ab (tF b).kids.length cb)∧w'.cell? ⟨ak,ao,none⟩=some (.int .i64 3)∧w'.cell? ⟨ak,ao+1,none⟩=some (.string ⟨an.toArray⟩)∧w'.cell? ⟨ak,ao+2,none⟩=some (.slice aq 0 ac)):=(show ∀ w',Chg Nob W w'→_ from fun w' h=>⟨(Hx.out w' h).1,(Hx.out w' h).2.1,(Hx.out w' h).2.2.1,(Hx.out w' h).2.2.2.1,(Hx.out w' h).2.2.2.2.1,(Hx.out w' h).2.2.2.2.2,(Hak.out w' h).1,(Hak.out w' h).2.1,(Hak.out w' h).2.2.1⟩)
       obtain ⟨a0,a1,a2,b0,b1,b2,ka0,ka1,ka2⟩:=hSx.out W.drew (Chg.refl _ _).drew
       go_enter Tryz.func139,Tryz.ntmps139
       go_wp2_with fail
       rw [← hWe]
       clear hWe
       refine wp_region_free (fun _=>true) (fun w'=>w'.cell? ⟨w.heap.size,0,none⟩=some (.int .i64 (tF a).kind)∧w'.cell? ⟨w.heap.size,1,none⟩=some (.string ⟨(tF a).name.toArray⟩)∧w'.cell? ⟨w.heap.size,2,none⟩=some (.slice (some ⟨ak,ao,none⟩) (tF a).kids.length ca)∧w'.cell? ⟨w.heap.size+1,0,none⟩=some (.int .i64 (tF b).kind)∧w'.cell? ⟨w.heap.size+1,1,none⟩=some (.string ⟨(tF b).name.toArray⟩)∧w'.cell? ⟨w.heap.size+1,2,none⟩=some (.slice ab (tF b).kids.length cb)∧w'.cell? ⟨ak,ao,none⟩=some (.int .i64 3)∧w'.cell? ⟨ak,ao+1,none⟩=some (.string ⟨an.toArray⟩)∧w'.cell? ⟨ak,ao+2,none⟩=some (.slice aq 0 ac)) (by kernel_rfl) ⟨a0,a1,a2,b0,b1,b2,ka0,ka1,ka2⟩ (fun hHeld=>?_)
       refine tkG 0 hHeld ?_
       refine tkG 1 hHeld ?_
       refine tkG 2 hHeld ?_
       refine tkG 3 hHeld ?_
       refine tkG 4 hHeld ?_
       refine tkG 5 hHeld ?_
       refine tkG 6 hHeld ?_
       refine tkG 7 hHeld ?_
       refine tkG 8 hHeld ?_
       refine rdG 9 fun K hK=>?_
       go_simp
       (with_reducible refine (same_ti (Hak.out _ (Chg.refl Nob W).drew).2.2.2 (Hb.out.nob (Chg.refl Nob W).drew)).mono ?_)
       rintro e w5 ⟨rfl,hc5⟩
       have Hc5:=Lib.hid (Chg.trans1 (Chg.refl Nob W).drew hc5)
       have hS5:=hSx.out w5 Hc5.out
       refine hK.out _ _ (fun _=>hS5) ?_
       clear hK K hc5
       try simp only [Act.put]
       refine tkG 10 hS5 ?_
       refine tkG 11 hS5 ?_
       refine tkG 12 hS5 ?_
       refine tkG 13 hS5 ?_
       refine tkG 14 hS5 ?_
       refine tkG 15 hS5 ?_
       refine wpAnyG_take (i:=16) (v:=undef) rfl (by kernel_rfl) (fun _ _ _ h=>h) (Or.inr ⟨by kernel_rfl,rfl⟩) hS5 ?_
       try simp only [Act.put]
       refine wpAnyG_take (i:=17) (v:=undef) rfl (by kernel_rfl) (fun _ _ _ h=>h) (Or.inr ⟨by kernel_rfl,rfl⟩) hS5 ?_
       try simp only [Act.put]
       refine wpAnyG_take (i:=18) (v:=undef) rfl (by kernel_rfl) (fun _ _ _ h=>h) (Or.inr ⟨by kernel_rfl,rfl⟩) hS5 ?_
       try simp only [Act.put]
       refine wpAnyG_take (i:=19) (v:=undef) rfl (by kernel_rfl) (fun _ _ _ h=>h) (Or.inr ⟨by kernel_rfl,rfl⟩) hS5 ?_
       try simp only [Act.put]
       refine wpAnyG_take (i:=20) (v:=undef) rfl (by kernel_rfl) (fun _ _ _ h=>h) (Or.inr ⟨by kernel_rfl,rfl⟩) hS5 ?_
       try simp only [Act.put]
       refine wpAnyG_ready (rs:=[21]) (by kernel_rfl) (by simp) ?_
       refine AllReadyG.cons rfl (fun K hK=>?_) AllReadyG.nil
       rw [if_neg (Bool.eq_false_iff.1 (by kernel_rfl))]
       refine hK.out _ _ (fun _=>hS5) ?_
       clear hK K
       try simp only [Act.put]
       refine tkG 22 hS5 ?_
       refine tkG 23 hS5 ?_
       refine tkG 24 hS5 ?_
       refine wpAnyG_done (by kernel_rfl) ?_ _
       go_simp
       go_wp2_with fail
       go_ret
       exact ⟨by rw [Hr.out];rfl,Hc.out.trans1 Hc5.out⟩
     | true =>
       obtain ⟨bn,hbn⟩:=kF_np (b:=b) (by simpa using hb)
       have hlb:(tF b).kids=[.node 3 bn []]:=by rw [hbn];rfl
       obtain ⟨bk,bo,bq,bc,eb,c0,c1,c2,hxb⟩:=Hb.out.kid (j:=0) (x:= .node 3 bn []) (by rw [hlb];rfl)
       rw [Nat.zero_mul,Nat.add_zero] at c0 c1 c2
       have hlenb:0 < (tF b).kids.length:=by rw [hlb];simp
       have Hbk:Hid (∀ w',Chg Nob W w'→w'.cell? ⟨bk,bo,none⟩=some (.int .i64 3)∧w'.cell? ⟨bk,bo+1,none⟩=some (.string ⟨bn.toArray⟩)∧w'.cell? ⟨bk,bo+2,none⟩=some (.slice bq 0 bc)∧TI w' (.node 3 bn []) (.agg #[.int .i64 3,.string ⟨bn.toArray⟩,.slice bq 0 bc])):=(show ∀ w',Chg Nob W w'→_ from fun w' h=>⟨h.cell' c0 (fun e=>e),h.cell' c1 (fun e=>e),h.cell' c2 (fun e=>e),hxb.nob h⟩)
       subst eb
       clear c0 c1 c2 hxb hlb
       have hs2:sameT (.node 3 bn []) (tF a)=false:=by rw [han];exact same_np _ _
       have Hr:Hid (PL.oppF a b=false):=(show PL.oppF a b=false by rw [han,hbn];rfl)
       clear han hbn
       have hSx:Hid (∀ w',Chg Nob W w'→w'.cell? ⟨w.heap.size,0,none⟩=some (.int .i64 (tF a).kind)∧w'.cell? ⟨w.heap.size,1,none⟩=some (.string ⟨(tF a).name.toArray⟩)∧w'.cell? ⟨w.heap.size,2,none⟩=some (.slice (some ⟨ak,ao,none⟩) (tF a).kids.length ca)∧w'.cell? ⟨w.heap.size+1,0,none⟩=some (.int .i64 (tF b).kind)∧w'.cell? ⟨w.heap.size+1,1,none⟩=some (.string ⟨(tF b).name.toArray⟩)∧w'.cell? ⟨w.heap.size+1,2,none⟩=some (.slice (some ⟨bk,bo,none⟩) (tF b).kids.length cb)∧w'.cell? ⟨ak,ao,none⟩=some (.int .i64 3)∧w'.cell? ⟨ak,ao+1,none⟩=some (.string ⟨an.toArray⟩)∧w'.cell? ⟨ak,ao+2,none⟩=some (.slice aq 0 ac)∧w'.cell? ⟨bk,bo,none⟩=some (.int .i64 3)∧w'.cell? ⟨bk,bo+1,none⟩=some (.string ⟨bn.toArray⟩)∧w'.cell? ⟨bk,bo+2,none⟩=some (.slice bq 0 bc)):=(show ∀ w',Chg Nob W w'→_ from fun w' h=>⟨(Hx.out w' h).1,(Hx.out w' h).2.1,(Hx.out w' h).2.2.1,(Hx.out w' h).2.2.2.1,(Hx.out w' h).2.2.2.2.1,(Hx.out w' h).2.2.2.2.2,(Hak.out w' h).1,(Hak.out w' h).2.1,(Hak.out w' h).2.2.1,(Hbk.out w' h).1,(Hbk.out w' h).2.1,(Hbk.out w' h).2.2.1⟩)
       obtain ⟨a0,a1,a2,b0,b1,b2,ka0,ka1,ka2,kb0,kb1,kb2⟩:=hSx.out W.drew (Chg.refl _ _).drew
       go_enter Tryz.func139,Tryz.ntmps139
       go_wp2_with fail
       rw [← hWe]
       clear hWe
       refine wp_region_free (fun _=>true) (fun w'=>w'.cell? ⟨w.heap.size,0,none⟩=some (.int .i64 (tF a).kind)∧w'.cell? ⟨w.heap.size,1,none⟩=some (.string ⟨(tF a).name.toArray⟩)∧w'.cell? ⟨w.heap.size,2,none⟩=some (.slice (some ⟨ak,ao,none⟩) (tF a).kids.length ca)∧w'.cell? ⟨w.heap.size+1,0,none⟩=some (.int .i64 (tF b).kind)∧w'.cell? ⟨w.heap.size+1,1,none⟩=some (.string ⟨(tF b).name.toArray⟩)∧w'.cell? ⟨w.heap.size+1,2,none⟩=some (.slice (some ⟨bk,bo,none⟩) (tF b).kids.length cb)∧w'.cell? ⟨ak,ao,none⟩=some (.int .i64 3)∧w'.cell? ⟨ak,ao+1,none⟩=some (.string ⟨an.toArray⟩)∧w'.cell? ⟨ak,ao+2,none⟩=some (.slice aq 0 ac)∧w'.cell? ⟨bk,bo,none⟩=some (.int .i64 3)∧w'.cell? ⟨bk,bo+1,none⟩=some (.string ⟨bn.toArray⟩)∧w'.cell? ⟨bk,bo+2,none⟩=some (.slice bq 0 bc)) (by kernel_rfl) ⟨a0,a1,a2,b0,b1,b2,ka0,ka1,ka2,kb0,kb1,kb2⟩ (fun hHeld=>?_)
       refine tkG 0 hHeld ?_
       refine tkG 1 hHeld ?_
       refine tkG 2 hHeld ?_
       refine tkG 3 hHeld ?_
       refine tkG 4 hHeld ?_
       refine tkG 5 hHeld ?_
       refine tkG 6 hHeld ?_
       refine tkG 7 hHeld ?_
       refine tkG 8 hHeld ?_
       refine rdG 9 fun K hK=>?_
       go_simp
       (with_reducible refine (same_ti (Hak.out _ (Chg.refl Nob W).drew).2.2.2 (Hb.out.nob (Chg.refl Nob W).drew)).mono ?_)
       rintro e w5 ⟨rfl,hc5⟩
       have Hc5:=Lib.hid (Chg.trans1 (Chg.refl Nob W).drew hc5)
       have hS5:=hSx.out w5 Hc5.out
       refine hK.out _ _ (fun _=>hS5) ?_
       clear hK K hc5
       try simp only [Act.put]
       refine tkG 10 hS5 ?_
       refine tkG 11 hS5 ?_
       refine tkG 12 hS5 ?_
       refine tkG 13 hS5 ?_
       refine tkG 14 hS5 ?_
       refine tkG 15 hS5 ?_
       refine tkG 16 hS5 ?_
       refine tkG 17 hS5 ?_
       refine tkG 18 hS5 ?_
       refine tkG 19 hS5 ?_
       refine tkG 20 hS5 ?_
       refine rdG 21 fun K hK=>?_
       go_simp
       (with_reducible refine (same_ti (Hbk.out _ Hc5.out).2.2.2 (Ha.out.nob Hc5.out)).mono ?_)
       rintro e w6 ⟨rfl,hc6⟩
       have Hc6:=Lib.hid (Chg.trans1 Hc5.out hc6)
       have hS6:=hSx.out w6 Hc6.out
       refine hK.out _ _ (fun _=>hS6) ?_
       clear hK K hc6
       try simp only [Act.put]
       refine tkG 22 hS6 ?_
       refine tkG 23 hS6 ?_
       refine tkG 24 hS6 ?_
       refine wpAnyG_done (by kernel_rfl) ?_ _
       go_simp
       go_wp2_with fail
       go_ret
       exact ⟨by rw [Hr.out];rfl,Hc.out.trans1 Hc6.out⟩
end Go.Proofs.YtkgfdgfhpdhhaaaGreat
