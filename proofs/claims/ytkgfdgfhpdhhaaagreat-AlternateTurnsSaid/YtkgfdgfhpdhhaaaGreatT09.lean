/- Parts of the walks and of the plain theory, the first: Which formulas may be, by the program. Conditions: as each theorem states. -/
import Derived.Test.YtkgfdgfhpdhhaaaGreatT08
import Derived.Test.YtkgfdgfhpdhhaaaGreatT02
import Derived.Lib.Builder
import Derived.Lib.UnsafeStr
import Derived.RegionTactic
import Derived.BigRegion
import Derived.Laws.Externs
import Derived.Deep.RegionWith
import Derived.Test.YtkgfdgfhpdhhaaaGreatT03
import Derived.Test.YtkgfdgfhpdhhaaaGreatT04
import Derived.Test.YtkgfdgfhpdhhaaaGreatT05
import Derived.Defers
import Derived.Recover
import Derived.Laws.Pointers
import Derived.WideLaws
namespace Go.Proofs.YtkgfdgfhpdhhaaaGreat
open Go.ChangeShapes Go.WideShapes Go.RowKit Go.Shelf Go.Sort
attribute [local go_sem] Oper.semAt_some
set_option maxRecDepth 100000
set_option maxHeartbeats 4000000
def nodeOk (t:T):Bool:=okNode t.kind t.name t.kids.length
mutual
theorem mayT_allT:∀ t:T,mayT t=(allT t).all nodeOk
 | .node k nm kids=>by
   rw [mayT,allT,List.all_cons,mayL_allL];rfl
theorem mayL_allL:∀ l:List T,mayL l=(allL l).all nodeOk
 | []=>by rw [mayL,allL];rfl
 | t::ts=>by rw [mayL,allL,List.all_append,mayT_allT,mayL_allL]
end
theorem results68 {rb:Nat} {tm:Array Value} {w:World} {x:Bool} (h2:tm[2]? = some (.pointer (some ⟨rb,0,none⟩))) (hb:w.heap[rb]? = some (.cells #[.bool x] 4 (0,0))):(results Tryz.f82 tm).run Tryz.prog w = .ok (.bool x) w:=by
 have c0:=cell_row hb 0 (v:= .bool x) rfl
 simp [results,Tryz.results82,go_sem,h2,c0]
theorem made_any (R:Nat→Prop) (t:T) (v:Value) (w:World) (ht:IsTree R w t v) (hN:sizeT t≤1000000) (hR:∀ b,R b→b < w.heap.size) :
 Calls Tryz.prog 82 #[v] w fun e w'=>e = .returned (.bool (mayT t))∧Chg Nob w w':=by
 obtain ⟨a,b,c,hv⟩:=ht.agg
 have Ht:=Lib.hid ht
 clear ht
 subst hv
 refine (callsIn_wide (n:=5)).1 (callsIn_of_wp_marks Tryz.func82 rfl trivial ?_ rfl)
 simp only [Tryz.ntmps82,List.size_toArray,List.length_cons,List.length_nil,Nat.reduceAdd,Nat.reduceSub,Array.replicate_succ,Array.replicate_zero,List.push_toArray,List.append_toArray,List.nil_append,List.cons_append]
 gi_wp2
 refine ⟨trivial,(callsIn_wide.2 (parts_any (.agg #[a,b,c]) a b c rfl _)).mono ?_⟩
 rintro e w1 ⟨rfl,rfl⟩
 gi_wp2
 have hw2:Chg Nob w ((w.alloc (.cells #[a,b,c] 24)).alloc (.cells #[.bool false] 4)):=((Chg.refl _ _).alloc _).alloc _
 have hs2:((w.alloc (.cells #[a,b,c] 24)).alloc (.cells #[.bool false] 4)).heap.size=w.heap.size+1+1:=by simp
 have hit:=parts_of (n:=4) (by omega) (V0:=fun k=>k=w.heap.size+1) (rfl:Value.agg #[a,b,c]=_) Ht.out hN hR hw2 hs2 (by rintro k rfl;omega)
 have hcnt:=heap_alloc_new (w.alloc (.cells #[a,b,c] 24)) (.cells #[.bool false] 4)
 rw [World.size_alloc] at hcnt
 have hcnt3:=((Chg.refl Nob _).alloc (.cells #[a,b,c] 24)).at hcnt (fun e=>e)
 have hw3:Chg Nob w (((w.alloc (.cells #[a,b,c] 24)).alloc (.cells #[.bool false] 4)).alloc (.cells #[a,b,c] 24)):=hw2.alloc _
 have hs3:(((w.alloc (.cells #[a,b,c] 24)).alloc (.cells #[.bool false] 4)).alloc (.cells #[a,b,c] 24)).heap.size=w.heap.size+3:=by simp
 have htr:=preT_tree t (.agg #[a,b,c]) (Ht.out.nob hw3)
 have hall:=preT_all (((w.alloc (.cells #[a,b,c] 24)).alloc (.cells #[.bool false] 4)).alloc (.cells #[a,b,c] 24)) t (.agg #[a,b,c])
 clear hcnt
 generalize (((w.alloc (.cells #[a,b,c] 24)).alloc (.cells #[.bool false] 4)).alloc (.cells #[a,b,c] 24))=W3 at *
 have Htr:=Lib.hid htr
 have Hall:=Lib.hid hall
 clear htr hall
 refine range_iter (E:=E9) (n0:=w.heap.size) (gf:=133) (by omega) rfl (enters_of Tryz.func133 (by kernel_rfl) rfl) hit (by rintro k rfl;omega) (fun _=>rfl)
  (fun pre W=>W.heap[w.heap.size+1]? = some (.cells #[.bool false] 4 (0,0))∧(∀ x∈pre,nodeOk x.1=true)∧Chg Nob w W)
  (fun c pre W=>c = .ret∧W.heap[w.heap.size+1]? = some (.cells #[.bool false] 4 (0,0))∧(∃ x∈pre,nodeOk x.1=false)∧Chg Nob w W) ?_ ?_ ⟨hcnt3,(fun _ h=>by cases h),hw3⟩ ?_ ?_ ?_
 ·rintro pre A B ⟨h1,h2,h3⟩ hs
  exact ⟨Chg.at hs h1 (fun e=>by have:=e.1;omega),h2,chg_steps h3 hs (by omega)⟩
 ·rintro c pre A B ⟨h0,h1,h2,h3⟩ hs
  exact ⟨h0,Chg.at hs h1 (fun e=>by have:=e.1;omega),h2,chg_steps h3 hs (by omega)⟩
 ·rintro l pre ⟨x,xv⟩ W ⟨h1,h2,h3⟩ hpre hsz
  have hxm:(x,xv)∈preT W3 t (.agg #[a,b,c]):=hpre.subset (by simp)
  have htx:IsTree R W3 x xv:=Htr.out _ hxm
  obtain ⟨ao,cap,rfl,hxl,_⟩:=htx.parts
  have Htx:=Lib.hid htx
  clear htx hxm
  simp only [zip1,List.setIfInBounds_toArray,List.set_cons_succ,List.set_cons_zero]
  gi_wp2
  refine ⟨Keeps.of_chg ((Chg.refl _ _).alloc _),fun w₂ hc2 hst2=>?_⟩
  have hbx:=Chg.at hc2 (heap_alloc_new W _) (fun e=>by have e:W.heap.size=W3.heap.size+1:=e;omega)
  obtain ⟨c0,c1,c2,_⟩:=cells_three hbx
  have hres:=Chg.at hc2 (((Chg.refl Nob W).alloc (.cells #[.int .i64 x.kind,.string ⟨x.name.toArray⟩,.slice ao x.kids.length cap] 24)).at h1 (fun e=>e)) (fun e=>by have e:w.heap.size+1=W3.heap.size+1:=e;omega)
  have hcw:Chg Nob w w₂:=chg_steps (h3.alloc _) hst2 (by omega)
  have Hno:Hid (nodeOk x=false→∀ w',Chg Nob w₂ w'→Keeps E9 w.heap.size (fun k=>k=w.heap.size+1) w₂ (w'.setCell ⟨w.heap.size+1,0,none⟩ (.bool false))∧Code.ret=Code.ret∧(w'.setCell ⟨w.heap.size+1,0,none⟩ (.bool false)).heap[w.heap.size+1]? = some (.cells #[.bool false] 4 (0,0)) ∧
   (∃ y∈pre++[(x,Value.agg #[.int .i64 x.kind,.string ⟨x.name.toArray⟩,.slice ao x.kids.length cap])],nodeOk y.1=false)∧Chg Nob w (w'.setCell ⟨w.heap.size+1,0,none⟩ (.bool false))):=fun hbad w' hw'=>by
   have hset:Chg (fun k=>k=w.heap.size+1) w₂ (w'.setCell ⟨w.heap.size+1,0,none⟩ (.bool false)):=(hw'.any (S:=fun k=>k=w.heap.size+1)).setCell (p:=⟨w.heap.size+1,0,none⟩) (fun _=>rfl) _
   exact ⟨Keeps.of_chg hset,rfl,block_one_set (hw'.at hres (fun e=>e)),⟨_,List.mem_append_right _ List.mem_cons_self,hbad⟩,hcw.trans hset (fun i hi e=>by omega)⟩
  have Hyes:Hid (nodeOk x=true→∀ w',Chg Nob w₂ w'→Keeps E9 w.heap.size (fun k=>k=w.heap.size+1) w₂ w'∧w'.heap[w.heap.size+1]? = some (.cells #[.bool false] 4 (0,0)) ∧
   (∀ y∈pre++[(x,Value.agg #[.int .i64 x.kind,.string ⟨x.name.toArray⟩,.slice ao x.kids.length cap])],nodeOk y.1=true)∧Chg Nob w w'):=fun hok w' hw'=>by
   refine ⟨Keeps.of_chg (hw'.any),hw'.at hres (fun e=>e),fun y hy=>?_,hcw.trans1 hw'⟩
   rcases List.mem_append.1 hy with hy | hy
   ·exact h2 y hy
   ·obtain rfl:y=_:=by simpa using hy
    exact hok
  have Hres:=Lib.hid hres
  clear hbx hres hcw hc2 hst2 h1 h2 h3 hit hw2 hs2 hpre hcnt3 hw3 hs3
  have q0:=fun d os=>cell_regrown c0 d os
  have q1:=fun d os=>cell_regrown c1 d os
  have q2:=fun d os=>cell_regrown c2 d os
  have hok:nodeOk x=okNode x.kind x.name x.kids.length:=rfl
  rw [hok] at Hno Hyes
  clear hok c0 c1 c2
  cases hA:(kidsOf x.kind==(x.kids.length:Int)) with
  | false =>
    have hA2:(kidsOf x.kind != (x.kids.length:Int))=true:=by rw [bne,hA];rfl
    have Hbad:Hid (okNode x.kind x.name x.kids.length=false):=by
     show _=_
     unfold okNode
     rw [decide_eq_false (beq_eq_false_iff_ne.1 hA)];rfl
    gi_wp2_with fail
    refine quiet_below_round (by kernel_rfl) (by kernel_rfl) (by kernel_rfl) ?_
    repeat (go_big_quiet_step ((first | (go_at_call 137;exact regrown_same (kids_any _ _)) | (go_at_call 94;exact regrown_chg (isname_any _ _)))))
    refine wpQuiet_nil ?_
    intro _ hw'
    obtain ⟨⟨dq,osq⟩,hw''⟩:=hw'
    subst hw''
    clear q0 q1 q2
    have hcq:=Chg.of_below (below_regrown w₂ dq osq)
    generalize grow (redrawn w₂ dq) osq=w5 at *
    have r0:=cell_row (hcq.at Hres.out (fun e=>e)) 0 (v:= .bool false) rfl
    have r1:w5.frozen? ⟨w.heap.size+1,0,none⟩=false:=by simp [World.frozen?,hcq.at Hres.out (fun e=>e)]
    gi_wp2
    exact ⟨(Hno.out Hbad.out w5 hcq).1,rfl,(Hno.out Hbad.out w5 hcq).2.2⟩
  | true =>
    have hA2:(kidsOf x.kind != (x.kids.length:Int))=false:=by rw [bne,hA];rfl
    cases h3:(x.kind==3) with
    | true =>
      have h32:(x.kind != 3)=false:=by rw [bne,h3];rfl
      cases hN:nameB x.name with
      | false =>
        have Hbad:Hid (okNode x.kind x.name x.kids.length=false):=by
         show _=_
         unfold okNode
         rw [if_pos (beq_iff_eq.1 h3),hN];simp
        gi_wp2_with fail
        refine quiet_below_round (by kernel_rfl) (by kernel_rfl) (by kernel_rfl) ?_
        repeat (go_big_quiet_step ((first | (go_at_call 137;exact regrown_same (kids_any _ _)) | (go_at_call 94;exact regrown_chg (isname_any _ _)))))
        refine wpQuiet_nil ?_
        intro _ hw'
        obtain ⟨⟨dq,osq⟩,hw''⟩:=hw'
        subst hw''
        clear q0 q1 q2
        have hcq:=Chg.of_below (below_regrown w₂ dq osq)
        generalize grow (redrawn w₂ dq) osq=w5 at *
        have r0:=cell_row (hcq.at Hres.out (fun e=>e)) 0 (v:= .bool false) rfl
        have r1:w5.frozen? ⟨w.heap.size+1,0,none⟩=false:=by simp [World.frozen?,hcq.at Hres.out (fun e=>e)]
        gi_wp2
        exact ⟨(Hno.out Hbad.out w5 hcq).1,rfl,(Hno.out Hbad.out w5 hcq).2.2⟩
      | true =>
        have Hok:Hid (okNode x.kind x.name x.kids.length=true):=by
         show _=_
         unfold okNode
         rw [if_pos (beq_iff_eq.1 h3),hN,decide_eq_true (beq_iff_eq.1 hA)];rfl
        gi_wp2_with fail
        refine quiet_below_round (by kernel_rfl) (by kernel_rfl) (by kernel_rfl) ?_
        repeat (go_big_quiet_step ((first | (go_at_call 137;exact regrown_same (kids_any _ _)) | (go_at_call 94;exact regrown_chg (isname_any _ _)))))
        refine wpQuiet_nil ?_
        intro _ hw'
        obtain ⟨⟨dq,osq⟩,hw''⟩:=hw'
        subst hw''
        clear q0 q1 q2
        have hcq:=Chg.of_below (below_regrown w₂ dq osq)
        generalize grow (redrawn w₂ dq) osq=w5 at *
        gi_wp2
        exact Hyes.out Hok.out w5 hcq
    | false =>
      have h32:(x.kind != 3)=true:=by rw [bne,h3];rfl
      cases hE:(x.name==[]) with
      | false =>
        have hE2:(x.name != [])=true:=by rw [bne,hE];rfl
        have hE3:x.name.isEmpty=false:=by
         cases hh:x.name with
         | nil=>rw [hh] at hE;cases hE
         | cons _ _=>rfl
        have Hbad:Hid (okNode x.kind x.name x.kids.length=false):=by
         show _=_
         unfold okNode
         rw [if_neg (beq_eq_false_iff_ne.1 h3),decide_eq_false (beq_eq_false_iff_ne.1 hE)];simp
        cases hN:nameB x.name with
        | false =>
          gi_wp2_with fail
          refine quiet_below_round (by kernel_rfl) (by kernel_rfl) (by kernel_rfl) ?_
          repeat (go_big_quiet_step ((first | (go_at_call 137;exact regrown_same (kids_any _ _)) | (go_at_call 94;exact regrown_chg (isname_any _ _)))))
          refine wpQuiet_nil ?_
          intro _ hw'
          obtain ⟨⟨dq,osq⟩,hw''⟩:=hw'
          subst hw''
          clear q0 q1 q2
          have hcq:=Chg.of_below (below_regrown w₂ dq osq)
          generalize grow (redrawn w₂ dq) osq=w5 at *
          have r0:=cell_row (hcq.at Hres.out (fun e=>e)) 0 (v:= .bool false) rfl
          have r1:w5.frozen? ⟨w.heap.size+1,0,none⟩=false:=by simp [World.frozen?,hcq.at Hres.out (fun e=>e)]
          gi_wp2
          exact ⟨(Hno.out Hbad.out w5 hcq).1,rfl,(Hno.out Hbad.out w5 hcq).2.2⟩
        | true =>
          gi_wp2_with fail
          refine quiet_below_round (by kernel_rfl) (by kernel_rfl) (by kernel_rfl) ?_
          repeat (go_big_quiet_step ((first | (go_at_call 137;exact regrown_same (kids_any _ _)) | (go_at_call 94;exact regrown_chg (isname_any _ _)))))
          refine wpQuiet_nil ?_
          intro _ hw'
          obtain ⟨⟨dq,osq⟩,hw''⟩:=hw'
          subst hw''
          clear q0 q1 q2
          have hcq:=Chg.of_below (below_regrown w₂ dq osq)
          generalize grow (redrawn w₂ dq) osq=w5 at *
          have r0:=cell_row (hcq.at Hres.out (fun e=>e)) 0 (v:= .bool false) rfl
          have r1:w5.frozen? ⟨w.heap.size+1,0,none⟩=false:=by simp [World.frozen?,hcq.at Hres.out (fun e=>e)]
          gi_wp2
          exact ⟨(Hno.out Hbad.out w5 hcq).1,rfl,(Hno.out Hbad.out w5 hcq).2.2⟩
      | true =>
        have hE2:(x.name != [])=false:=by rw [bne,hE];rfl
        have hE3:x.name.isEmpty=true:=by rw [beq_iff_eq.1 hE];rfl
        have hN:nameB x.name=false:=by rw [beq_iff_eq.1 hE];rfl
        have Hok:Hid (okNode x.kind x.name x.kids.length=true):=by
         show _=_
         unfold okNode
         rw [if_neg (beq_eq_false_iff_ne.1 h3),decide_eq_true (beq_iff_eq.1 hE),decide_eq_true (beq_iff_eq.1 hA)];rfl
        have hE4:x.name=[]:=beq_iff_eq.1 hE
        rw [hE4] at q1 hN
        clear hE hE2 hE3
        gi_wp2_with fail
        refine quiet_below_round (by kernel_rfl) (by kernel_rfl) (by kernel_rfl) ?_
        repeat (go_big_quiet_step ((first | (go_at_call 137;exact regrown_same (kids_any _ _)) | (go_at_call 94;exact regrown_chg (isname_any _ _)))))
        refine wpQuiet_nil ?_
        intro _ hw'
        obtain ⟨⟨dq,osq⟩,hw''⟩:=hw'
        subst hw''
        clear q0 q1 q2
        have hcq:=Chg.of_below (below_regrown w₂ dq osq)
        generalize grow (redrawn w₂ dq) osq=w5 at *
        gi_wp2
        exact Hyes.out Hok.out w5 hcq
 ·rintro W ⟨h1,h2,h3⟩ hd
  have hm:mayT t=true:=by
   rw [mayT_allT,List.all_eq_true]
   intro y hy
   rw [← Hall.out] at hy
   obtain ⟨z,hz,rfl⟩:=List.mem_map.1 hy
   exact h2 z hz
  have r0:=cell_row h1 0 (v:= .bool false) rfl
  have r1:W.frozen? ⟨w.heap.size+1,0,none⟩=false:=by simp [World.frozen?,h1]
  have hb1:=block_one_set (u:= .bool true) h1
  have r2:=cell_row hb1 0 (v:= .bool true) rfl
  have hcF:Chg Nob w (W.setCell ⟨w.heap.size+1,0,none⟩ (.bool true)):=h3.trans (S':=fun k=>k=w.heap.size+1) ((Chg.refl (fun k=>k=w.heap.size+1) _).setCell (p:=⟨w.heap.size+1,0,none⟩) (fun _=>rfl) _) (fun i hi e=>by omega)
  have hdF:(W.setCell ⟨w.heap.size+1,0,none⟩ (.bool true)).heap[W3.heap.size]? = some (.deferred (some [])):=((Chg.refl (fun k=>k=w.heap.size+1) W).setCell (p:=⟨w.heap.size+1,0,none⟩) (fun _=>rfl) (.bool true)).at hd (fun e=>by omega)
  have Hm:=Lib.hid hm
  have Hd:=Lib.hid hdF
  have Hc:=Lib.hid hcF
  have Hb1:=Lib.hid hb1
  clear hm hd hdF hcF hb1 h2 h3
  gi_wp2
  refine leaves_one Hd.out (fun W' hc'=>⟨_,results68 rfl (hc'.at Hb1.out (fun e=>by have e:w.heap.size+1=W3.heap.size:=e;omega)),by rw [Hm.out],Hc.out.trans hc' (fun i hi e=>by have e:i=W3.heap.size:=e;omega)⟩)
 ·rintro c pre W hpre ⟨rfl,h1,⟨y,hy,hbad⟩,h3⟩ hd
  have hm:mayT t=false:=by
   rw [mayT_allT,Bool.eq_false_iff]
   intro h
   rw [List.all_eq_true] at h
   have:=h y.1 (by rw [← Hall.out];exact List.mem_map.2 ⟨y,hpre.subset hy,rfl⟩)
   rw [hbad] at this
   cases this
  have Hm:=Lib.hid hm
  have H1:=Lib.hid h1
  have H3:=Lib.hid h3
  have Hd:=Lib.hid hd
  clear hm h1 h3 hd
  gi_wp2
  refine leaves_one Hd.out (fun W' hc'=>⟨_,results68 rfl (hc'.at H1.out (fun e=>by have e:w.heap.size+1=W3.heap.size:=e;omega)),by rw [Hm.out],H3.out.trans hc' (fun i hi e=>by have e:i=W3.heap.size:=e;omega)⟩)
theorem check_any' (R:Nat→Prop) (t:T) (v:Value) (w:World) (ht:IsTree R w t v) (hN:sizeT t≤1000000) (hR:∀ b,R b→b < w.heap.size) :
 Calls Tryz.prog 73 #[v] w fun e w'=>e = .returned (.int .i64 (checkN t))∧Chg Nob w w':=by
 have Ht:=Lib.hid ht
 obtain ⟨ao,cap,rfl,hlen,_⟩:=ht.parts
 clear ht
 go_enter Tryz.func73,Tryz.ntmps73
 go_wp2_with fail
 have hcW:Chg Nob w (w.alloc (.cells #[.int .i64 t.kind,.string ⟨t.name.toArray⟩,.slice ao t.kids.length cap] 24)):=(Chg.refl _ _).alloc _
 have hbox:=heap_alloc_new w (.cells #[.int .i64 t.kind,.string ⟨t.name.toArray⟩,.slice ao t.kids.length cap] 24)
 have Hbox:=Lib.hid hbox
 clear hbox
 generalize (w.alloc (.cells #[.int .i64 t.kind,.string ⟨t.name.toArray⟩,.slice ao t.kids.length cap] 24))=W at *
 (with_reducible refine (made_any R t _ W (Ht.out.nob hcW) hN (fun b hb=>Nat.lt_of_lt_of_le (hR b hb) hcW.size)).mono ?_)
 rintro e w1 ⟨rfl,hc1⟩
 cases hm:mayT t with
 | false =>
   have Hres:Hid (checkN t=92):=if_pos hm
   go_wp2_with fail
   go_ret
   exact ⟨by rw [Hres.out];rfl,hcW.trans1 hc1⟩
 | true =>
   obtain ⟨c0,c1,c2,_⟩:=cells_three (hc1.at Hbox.out (fun e=>e))
   go_wp2_with fail
   (with_reducible refine (pdepth_any R t _ w1 (Ht.out.nob (hcW.trans1 hc1)) hN).mono ?_)
   rintro e w2 ⟨rfl,hc2⟩
   by_cases hd:100 < depthT t
   ·have hdi:(100:Int) < (depthT t:Int):=by omega
    have Hres:Hid (checkN t=93):=by show _=_;unfold checkN;rw [hm,if_neg (by simp),if_pos hd]
    go_wp2_with fail
    go_ret
    exact ⟨by rw [Hres.out];rfl,(hcW.trans1 hc1).trans1 hc2⟩
   ·have hdi:¬ (100:Int) < (depthT t:Int):=by omega
    have Hres:Hid (checkN t=0):=by show _=_;unfold checkN;rw [hm,if_neg (by simp),if_neg hd]
    go_wp2_with fail
    go_ret
    exact ⟨by rw [Hres.out];rfl,(hcW.trans1 hc1).trans1 hc2⟩
end Go.Proofs.YtkgfdgfhpdhhaaaGreat
namespace Go.Proofs.YtkgfdgfhpdhhaaaGreat
open Go.ChangeShapes Go.WideShapes Go.RowKit
theorem checkN_zero {t:T} (h:checkN t=0):mayT t=true∧depthT t≤100:=by
 unfold checkN at h
 split at h
 ·cases h
 ·rename_i h1
  split at h
  ·cases h
  ·rename_i h2
   exact ⟨by simpa using h1,by omega⟩
end Go.Proofs.YtkgfdgfhpdhhaaaGreat
namespace Go.Proofs.YtkgfdgfhpdhhaaaGreat
set_option maxRecDepth 100000
set_option maxHeartbeats 4000000
open Go.ChangeShapes Go.WideShapes Go.RowKit
theorem nfL_one (k:Int) (a:T) (no:Bool):nfL k [a] no=if k=4 then nfT a (!no) else if k=5 then .node 5 [] [nfT a no] else if k=6 then .node (flipK 13 no) [] [.node (flipK 2 no) [] [],nfT a no]
 else .node (flipK 12 no) [] [.node (flipK 1 no) [] [],nfT a no]:=by rw [nfL]
theorem nfL_two (k:Int) (a b:T) (no:Bool):nfL k [a,b] no=if k=10 then .node (flipK 9 no) [] [nfT a (!no),nfT b no]
 else if k=11 then .node 9 [] [.node 8 [] [nfT a false,nfT b no],.node 8 [] [nfT a true,nfT b (!no)]]
 else if k=14 then .node (flipK 13 no) [] [nfT b no,.node (flipK 9 no) [] [nfT a no,nfT b no]]
 else .node (flipK k no) [] [nfT a no,nfT b no]:=by rw [nfL]
theorem form_any:∀ t:T,mayT t=true→FormC t:=by
 refine kid_induct ?_
 intro t ih h R w nb L no v ht hR hN
 rw [nfT_eq]
 rcases may_shape h with ⟨hk,hn,hl⟩ | ⟨hk,hn,hl⟩ | ⟨hk,hn,a,hl,ha⟩ | ⟨hk,hn,a,b,hl,ha,hb⟩
 ·rw [if_pos hk]
  rcases hk with hk | hk
  ·rw [hk]
   exact form_1 t hl hk R w nb L no v ht hR hN
  ·rw [hk]
   exact form_2 t hl hk R w nb L no v ht hR hN
 ·rw [if_neg (by omega),if_pos hk]
  cases no
  ·exact form_3y t hl hk R w nb L v ht hR hN
  ·exact form_3n t hl hk R w nb L v ht hR hN
 ·rw [if_neg (by omega),if_neg (by omega),hl,nfL_one]
  have fa:=ih a (by rw [hl];simp) ha
  have hk':t.kind=4∨t.kind=5∨t.kind=6∨t.kind=7:=by omega
  rcases hk' with e | e | e | e
  ·rw [e]
   exact form_4 t a hl fa e R w nb L no v ht hR hN
  ·rw [e]
   exact form_5 t a hl fa e R w nb L no v ht hR hN
  ·rw [e]
   exact form_6 t a hl fa e R w nb L no v ht hR hN
  ·rw [e]
   exact form_7 t a hl fa e R w nb L no v ht hR hN
 ·rw [if_neg (by omega),if_neg (by omega),hl,nfL_two]
  have fa:=ih a (by rw [hl];simp) ha
  have fb:=ih b (by rw [hl];simp) hb
  have hk':t.kind=8∨t.kind=9∨t.kind=10∨t.kind=11∨t.kind=12∨t.kind=13∨t.kind=14:=by omega
  rcases hk' with e | e | e | e | e | e | e
  ·rw [e]
   exact form_8 t a b hl fa fb e R w nb L no v ht hR hN
  ·rw [e]
   exact form_9 t a b hl fa fb e R w nb L no v ht hR hN
  ·rw [e]
   exact form_10 t a b hl fa fb e R w nb L no v ht hR hN
  ·rw [e]
   exact form_11 t a b hl fa fb e R w nb L no v ht hR hN
  ·rw [e]
   exact form_12 t a b hl fa fb e R w nb L no v ht hR hN
  ·rw [e]
   exact form_13 t a b hl fa fb e R w nb L no v ht hR hN
  ·rw [e]
   exact form_14 t a b hl fa fb e R w nb L no v ht hR hN
open Go.ChangeShapes Go.WideShapes Go.ChangeAt Go.RowKit
def normN (t:T):Int:=if checkN t=0 then (if sizeT (nfT t false)≤20000 then 0 else 2) else checkN t
def normT (t:T):T:=if normN t=0 then nfT t false else .node 0 [] []
def NormPost (t:T) (w:World) (e:Ending) (w':World):Prop:=Chg Nob w w'∧∃ v,Fresh (Ge w.heap.size) w' (normT t) v∧e = .returned (.tuple #[v,.int .i64 (normN t)])
theorem ncatch_idle (p q:Addr) (w:World) :
 CallsD Tryz.prog 77 #[.pointer (some p),.pointer (some q)] .returning w fun e u' w'=>e = .returned (.tuple #[])∧u' = .returning∧w'=w:=by
 have h20:Tryz.prog.underlying 20=some (.interface (Tryz.prog.methodsAt 20)):=by kernel_rfl
 have hne:∀ w:World,(Go.binOp .neq 20 .nilIface .nilIface).run Tryz.prog w = .ok (.bool false) w:=fun w=>Go.run_neq_nil_nil w 20 h20
 refine callsD_of_wpS Tryz.func77 rfl fun c₀ cs hu=>?_
 apply wpS_seq
 apply wpS_region
 simp [wpOpsS,go_sem,recoverD,hu,Tryz.ntmps77,Exit.thenS]
 simp only [Array.replicate_succ,Array.replicate_zero,List.push_toArray,List.append_toArray,List.nil_append,List.cons_append,List.setIfInBounds_toArray,List.set_cons_succ,List.set_cons_zero]
 refine wpS_of_wp ?_
 go_wp2
 cases c₀
 simp_all [bodyPostS,results,Tryz.results77]
theorem ncatch_much (p q:Nat) (a0 a1 a2 m0:Value) (w:World) (hp:w.heap[p]? = some (.cells #[a0,a1,a2] 24)) (hq:w.heap[q]? = some (.cells #[m0] 32)) (hpq:p≠q) :
 CallsD Tryz.prog 77 #[.pointer (some ⟨p,0,none⟩),.pointer (some ⟨q,0,none⟩)] (.panicking much) w fun e u' w' =>
  e = .returned (.tuple #[])∧u' = .panicking [{ v:= .iface 132 (.agg #[]),recovered:=true }] ∧
    Chg (fun k=>k=p∨k=q) w w'∧w'.heap[p]? = some (.cells #[.int .i64 0,.string ⟨#[]⟩,.slice none 0 0] 24)∧w'.heap[q]? = some (.cells #[.int .i64 2] 32):=by
 have hta:∀ w:World,(Instr.typeAssert (.iface 132 (.agg #[])) 20 132 true).run Tryz.prog w = .ok (.tuple #[.agg #[],.bool true]) w:=fun _=>by kernel_rfl
 have h20:Tryz.prog.underlying 20=some (.interface (Tryz.prog.methodsAt 20)):=by kernel_rfl
 have hne:∀ w:World,(Go.binOp .neq 20 (.iface 132 (.agg #[])) .nilIface).run Tryz.prog w = .ok (.bool true) w:=fun w=>Go.run_neq_held_nil w 20 132 _ h20
 have hp1:=((Chg.refl Nob w).alloc (.cells #[] 132)).at hp (fun e=>e)
 have hq1:=((Chg.refl Nob w).alloc (.cells #[] 132)).at hq (fun e=>e)
 have hc1:Chg Nob w (w.alloc (.cells #[] 132)):=(Chg.refl _ _).alloc _
 obtain ⟨c0,c1,c2,f0,f1,f2⟩:=cells_three hp1
 have d0:=cell_row hq1 0 (v:=m0) rfl
 have g0:(w.alloc (.cells #[] 132)).frozen? ⟨q,0,none⟩=false:=by simp [World.frozen?,hq1]
 have hn3:q≠p:=fun e=>hpq e.symm
 have Hp1:=Lib.hid hp1
 have Hq1:=Lib.hid hq1
 clear hp hq hp1 hq1
 refine callsD_of_wpS Tryz.func77 rfl fun c₀ cs hu=>?_
 apply wpS_seq
 apply wpS_region
 unfold much at hu
 simp [wpOpsS,go_sem,recoverD,hu,Tryz.ntmps77,Exit.thenS]
 simp only [Array.replicate_succ,Array.replicate_zero,List.push_toArray,List.append_toArray,List.nil_append,List.cons_append,List.setIfInBounds_toArray,List.set_cons_succ,List.set_cons_zero]
 refine wpS_of_wp ?_
 go_wp2
 generalize w.alloc (.cells #[] 132)=W1 at *
 cases c₀
 have hcF:Chg (fun k=>k=p∨k=q) w ((((W1.setCell ⟨p,0,none⟩ (.int .i64 0)).setCell ⟨p,1,none⟩ (.string ⟨#[]⟩)).setCell ⟨p,2,none⟩ (.slice none 0 0)).setCell ⟨q,0,none⟩ (.int .i64 2)) :=
  ((((hc1.any (S:=fun k=>k=p∨k=q)).setCell (p:=⟨p,0,none⟩) (fun _=> .inl rfl) _).setCell (p:=⟨p,1,none⟩) (fun _=> .inl rfl) _).setCell (p:=⟨p,2,none⟩) (fun _=> .inl rfl) _).setCell (p:=⟨q,0,none⟩) (fun _=> .inr rfl) _
 have h3:=block_three_all Hp1.out (.int .i64 0) (.string ⟨#[]⟩) (.slice none 0 0)
 have k3:=(chg_three W1 p (.int .i64 0) (.string ⟨#[]⟩) (.slice none 0 0)).at Hq1.out hn3
 have h5:=((Chg.refl (At1 q) (((W1.setCell ⟨p,0,none⟩ (.int .i64 0)).setCell ⟨p,1,none⟩ (.string ⟨#[]⟩)).setCell ⟨p,2,none⟩ (.slice none 0 0))).setCell (p:=⟨q,0,none⟩) (fun _=>rfl) (.int .i64 2)).at h3 hpq
 have k5:=block_one_set (u:= .int .i64 2) k3
 exact ⟨rfl,_,rfl,.tuple #[],by simp [results,Tryz.results77],rfl,rfl,hcF,h5,k5⟩
theorem results34 {B:Nat} {tm:Array Value} {w:World} {a0 a1 a2 m0:Value} (h2:tm[2]? = some (.pointer (some ⟨B,0,none⟩))) (h3:tm[3]? = some (.pointer (some ⟨B+1,0,none⟩))) (hb:w.heap[B]? = some (.cells #[a0,a1,a2] 24)) (hb1:w.heap[B+1]? = some (.cells #[m0] 32)) :
 (results Tryz.f44 tm).run Tryz.prog w = .ok (.tuple #[.agg #[a0,a1,a2],m0]) w:=by
 obtain ⟨c0,c1,c2,_⟩:=cells_three hb
 have d0:=cell_row hb1 0 (v:=m0) rfl
 simp [results,Tryz.results44,go_sem,h2,h3,c0,c1,c2,d0]
theorem fresh_zero {R:Nat→Prop} {w:World}:Fresh R w (.node 0 [] []) (.agg #[.int .i64 0,.string ⟨#[]⟩,.slice none 0 0]):=by
 rw [Fresh]
 exact .inl ⟨rfl,rfl⟩
theorem thrown34 {t:T} {w wr:World} {B:Nat} {tm:Array Value} (hN:normN t=2) (hB:B=w.heap.size+1) (hc:Chg Nob w wr) (hb:∃ a0 a1 a2,wr.heap[B]? = some (.cells #[a0,a1,a2] 24)) (hb1:∃ m0,wr.heap[B+1]? = some (.cells #[m0] 32))
 (h2:tm[2]? = some (.pointer (some ⟨B,0,none⟩))) (h3:tm[3]? = some (.pointer (some ⟨B+1,0,none⟩))) :
 bodyPostD Tryz.prog Tryz.f44 (NormPost t w) (Exit.panic much) { tmps:=tm,defers:=[{ target:= .fn (.func 77) #[.pointer (some ⟨B,0,none⟩),.pointer (some ⟨B+1,0,none⟩)],args:=#[] }] } wr:=by
 obtain ⟨a0,a1,a2,hb⟩:=hb
 obtain ⟨m0,hb1⟩:=hb1
 refine leaves_cons (f:=77) (args:=#[.pointer (some ⟨B,0,none⟩),.pointer (some ⟨B+1,0,none⟩)]) (by simp) (by simp [go_sem]) ?_
 refine (ncatch_much B (B+1) a0 a1 a2 m0 _ hb hb1 (by omega)).mono ?_
 rintro e u' w'' ⟨rfl,rfl,hc2,hb2,hb3⟩
 refine ⟨_,results34 h2 h3 hb2 hb3,hc.trans hc2 (fun i hi e=>by rcases e with e | e <;> omega),_,?_,by rw [hN]⟩
 rw [normT,if_neg (by rw [hN];omega)]
 exact fresh_zero
theorem done34 {t na:T} (hna:na=nfT t false) {w wr:World} {B:Nat} {tm:Array Value} {a0 a1 a2:Value} (hN:normN t=0) (_hB:B=w.heap.size+1) (hF:Fresh (Ge w.heap.size) wr na (.agg #[a0,a1,a2])) (hc:Chg Nob w wr)
 (hb:wr.heap[B]? = some (.cells #[a0,a1,a2] 24)) (hb1:wr.heap[B+1]? = some (.cells #[.int .i64 0] 32))
 (h2:tm[2]? = some (.pointer (some ⟨B,0,none⟩))) (h3:tm[3]? = some (.pointer (some ⟨B+1,0,none⟩))) :
 bodyPostD Tryz.prog Tryz.f44 (NormPost t w) Exit.ret { tmps:=tm,defers:=[{ target:= .fn (.func 77) #[.pointer (some ⟨B,0,none⟩),.pointer (some ⟨B+1,0,none⟩)],args:=#[] }] } wr:=by
 refine leaves_cons (f:=77) (args:=#[.pointer (some ⟨B,0,none⟩),.pointer (some ⟨B+1,0,none⟩)]) (by simp) (by simp [go_sem]) ?_
 refine (ncatch_idle ⟨B,0,none⟩ ⟨B+1,0,none⟩ _).mono ?_
 rintro e u' w'' ⟨rfl,rfl,rfl⟩
 refine ⟨_,results34 h2 h3 hb hb1,hc,_,?_,by rw [hN]⟩
 rw [normT,if_pos hN,← hna]
 exact hF
theorem Normal_any (R:Nat→Prop) (t:T) (v:Value) (w:World) (ht:IsTree R w t v) (hN:sizeT t≤1000000) (hR:∀ b,R b→b < w.heap.size):Calls Tryz.prog 44 #[v] w (NormPost t w):=by
 have hmf:∀ (fn:Fn) (first cap:Array Value) (w:World),(Instr.makeFunc fn first cap).run Tryz.prog w = .ok (.func fn first cap) w:=fun _ _ _ _=>rfl
 obtain ⟨ao,cap,rfl,hlen,hk⟩:=ht.parts
 have hW:Hid (∃ W,W=((w.alloc (.cells #[.int .i64 t.kind,.string ⟨t.name.toArray⟩,.slice ao t.kids.length cap] 24)).alloc (.cells #[.int .i64 0,.string ⟨#[]⟩,.slice none 0 0] 24)).alloc (.cells #[.int .i64 0] 32)∧Chg Nob w W∧W.heap.size=w.heap.size+3∧W.heap[w.heap.size]? = some (.cells #[.int .i64 t.kind,.string ⟨t.name.toArray⟩,.slice ao t.kids.length cap] 24 (0,0))∧W.heap[w.heap.size+1]? = some (.cells #[.int .i64 0,.string ⟨#[]⟩,.slice none 0 0] 24 (0,0))∧W.heap[w.heap.size+1+1]? = some (.cells #[.int .i64 0] 32 (0,0))):=by
  have h1:=heap_alloc_new (w.alloc (.cells #[.int .i64 t.kind,.string ⟨t.name.toArray⟩,.slice ao t.kids.length cap] 24)) (.cells #[.int .i64 0,.string ⟨#[]⟩,.slice none 0 0] 24)
  have h2:=heap_alloc_new ((w.alloc (.cells #[.int .i64 t.kind,.string ⟨t.name.toArray⟩,.slice ao t.kids.length cap] 24)).alloc (.cells #[.int .i64 0,.string ⟨#[]⟩,.slice none 0 0] 24)) (.cells #[.int .i64 0] 32)
  rw [World.size_alloc] at h1
  rw [World.size_alloc,World.size_alloc] at h2
  exact ⟨_,rfl,(((Chg.refl _ _).alloc _).alloc _).alloc _,by rw [World.size_alloc,World.size_alloc,World.size_alloc],(((Chg.refl Nob _).alloc _).alloc _).at (heap_alloc_new w _) (fun e=>e),((Chg.refl Nob _).alloc _).at h1 (fun e=>e),h2⟩
 have Ht:=Lib.hid ht
 clear ht hk
 go_enter_defers Tryz.func44,Tryz.ntmps44
 go_wp2_with fail
 obtain ⟨W,hWe,hc,hs,hb,hb1,hb2⟩:=hW.out
 rw [← hWe]
 clear hW hWe
 have Hs:=Lib.hid hs
 have Hb:=Lib.hid hb
 have Hb1:=Lib.hid hb1
 have Hb2:=Lib.hid hb2
 clear hs hb hb1 hb2
 (with_reducible refine (check_any' R t _ W (Ht.out.nob hc) hN (fun b h=>by have:=hR b h;have:=Hs.out;omega)).mono ?_)
 rintro e w1 ⟨rfl,hc1⟩
 have hs:=Hs.out
 have hb':=hc1.at Hb.out (fun e=>e)
 have hb1':=hc1.at Hb1.out (fun e=>e)
 have hb2':=hc1.at Hb2.out (fun e=>e)
 have hcw:=hc.trans1 hc1
 have hz1:=hc1.size
 obtain ⟨c0,c1,c2,_⟩:=cells_three hb'
 obtain ⟨d0,d1,d2,f0,f1,f2⟩:=cells_three hb1'
 have x0:=cell_row hb2' 0 (v:= .int .i64 0) rfl
 have x1:w1.frozen? ⟨w.heap.size+1+1,0,none⟩=false:=by simp [World.frozen?,hb2']
 have Hb':=Lib.hid hb'
 have Hb1':=Lib.hid hb1'
 have Hb2':=Lib.hid hb2'
 have Hs':=Lib.hid hs
 clear hb' hb1' hb2' hs Hs
 by_cases h0:checkN t=0
 ·have hne:(checkN t != 0)=false:=by rw [h0];rfl
  have H0:=Lib.hid h0
  clear h0
  have ht1:=Ht.out.nob hcw
  have hcX:Chg Nob w1 (w1.alloc (.cells #[.int .i64 20000] 136)):=(Chg.refl _ _).alloc _
  have hNb:Nb (w1.alloc (.cells #[.int .i64 20000] 136)) w1.heap.size 20000:=⟨heap_alloc_new w1 (.cells #[.int .i64 20000] 136),Nat.le_refl _⟩
  have hcall:=form_any t (checkN_zero H0.out).1 R _ _ _ false _ (ht1.nob hcX) (fun b hb=>by have:=hR b hb;have:=Hs'.out;omega) hNb
  have HcX:=Lib.hid hcX
  have hsX:(w1.alloc (.cells #[.int .i64 20000] 136)).heap.size=w1.heap.size+1:=World.size_alloc _ _
  have HsX:=Lib.hid hsX
  obtain ⟨y0,y1,y2,_⟩:=cells_three (hcX.at Hb'.out (fun e=>e))
  clear hNb ht1 hcX hsX
  go_wp2_with fail
  generalize w1.alloc (.cells #[.int .i64 20000] 136)=X at *
  (with_reducible refine hcall.mono ?_)
  clear hcall c0 c1 c2 d0 d1 d2 f0 f1 f2 x0 x1 y0 y1 y2
  rintro e w2 ⟨hc2,⟨vn,hsn,rfl,hF,hN2⟩ | ⟨hsn,rfl⟩⟩
  ·obtain ⟨a5,acap,rfl⟩:=hF.agg
   obtain ⟨na,hna⟩:∃ na:T,na=nfT t false:=⟨_,rfl⟩
   rw [← hna] at hsn hF hN2 ⊢
   have Hna:=Lib.hid hna
   clear hna
   have hs':=Hs'.out
   have hsX:=HsX.out
   have hcX:=HcX.out
   have hz2:=hc2.size
   have hb2:=hc2.at (hcX.at Hb'.out (fun e=>e)) (fun e=>by have e:w.heap.size=w1.heap.size:=e;omega)
   have hb12:=hc2.at (hcX.at Hb1'.out (fun e=>e)) (fun e=>by have e:w.heap.size+1=w1.heap.size:=e;omega)
   have hb22:=hc2.at (hcX.at Hb2'.out (fun e=>e)) (fun e=>by have e:w.heap.size+1+1=w1.heap.size:=e;omega)
   obtain ⟨d0,d1,d2,f0,f1,f2⟩:=cells_three hb12
   have x0:=cell_row hb22 0 (v:= .int .i64 0) rfl
   have x1:w2.frozen? ⟨w.heap.size+1+1,0,none⟩=false:=by simp [World.frozen?,hb22]
   have k3:=chg_three w2 (w.heap.size+1) (.int .i64 na.kind) (.string ⟨na.name.toArray⟩) (.slice a5 na.kids.length acap)
   have h3:=block_three_all hb12 (.int .i64 na.kind) (.string ⟨na.name.toArray⟩) (.slice a5 na.kids.length acap)
   have q3:=k3.at hb22 (fun e=>by have e:w.heap.size+1+1=w.heap.size+1:=e;omega)
   have k4:=(Chg.refl (At1 (w.heap.size+1+1)) (((w2.setCell ⟨w.heap.size+1,0,none⟩ (.int .i64 na.kind)).setCell ⟨w.heap.size+1,1,none⟩ (.string ⟨na.name.toArray⟩)).setCell ⟨w.heap.size+1,2,none⟩ (.slice a5 na.kids.length acap))).setCell (p:=⟨w.heap.size+1+1,0,none⟩) (fun _=>rfl) (.int .i64 0)
   have h4:=k4.at h3 (fun e=>by have e:w.heap.size+1=w.heap.size+1+1:=e;omega)
   have q4:=block_one_set (u:= .int .i64 0) q3
   have k24:Chg (fun k=>k=w.heap.size+1∨k=w.heap.size+1+1) w2 _:=(k3.mono (fun _ _ e=> .inl e)).trans k4 (fun _ _ e=> .inr e)
   have hcw2:Chg Nob w w2:=((hcw.trans1 hcX).any (S:=At1 w1.heap.size)).trans1 hc2 |>.mono (fun i hi e=>by have e:i=w1.heap.size:=e;omega)
   have hcw4:Chg Nob w _:=(hcw2.any (S:=fun k=>k=w.heap.size+1∨k=w.heap.size+1+1)).trans1 k24 |>.mono (fun i hi e=>by rcases e with e | e <;> omega)
   have HF4:Hid (Fresh (Ge w.heap.size) _ na _):=hF.chg k24 (fun b hb hb2 e=>by have hb:X.heap.size≤b:=hb;rcases e with e | e <;> omega) (fun b hb=>by have hb:X.heap.size≤b:=hb;unfold Ge;omega)
   have H4:=Lib.hid h4
   have Q4:=Lib.hid q4
   have Hc4:=Lib.hid hcw4
   have hN0:Hid (normN t=0):=(show normN t=0 by unfold normN;rw [if_pos H0.out,if_pos (by rw [← Hna.out];exact hsn)])
   clear hb2 hb12 hb22 h3 h4 q3 q4 k3 k4 k24 hcw4 hcw2 hF hN2 hs' hsX
   go_wp2
   exact done34 Hna.out hN0.out rfl HF4.out Hc4.out H4.out Q4.out rfl rfl
  ·have hs':=Hs'.out
   have hsX:=HsX.out
   have hcX:=HcX.out
   have hb12:=hc2.at (hcX.at Hb1'.out (fun e=>e)) (fun e=>by have e:w.heap.size+1=w1.heap.size:=e;omega)
   have hb22:=hc2.at (hcX.at Hb2'.out (fun e=>e)) (fun e=>by have e:w.heap.size+1+1=w1.heap.size:=e;omega)
   have hcw2:Chg Nob w w2:=((hcw.trans1 hcX).any (S:=At1 w1.heap.size)).trans1 hc2 |>.mono (fun i hi e=>by have e:i=w1.heap.size:=e;omega)
   have hN2:Hid (normN t=2):=(show normN t=2 by unfold normN;rw [if_pos H0.out,if_neg (by omega)])
   go_wp2
   exact thrown34 hN2.out rfl hcw2 ⟨_,_,_,hb12⟩ ⟨_,hb22⟩ rfl rfl
 ·have hne:(checkN t != 0)=true:=by rw [bne,beq_eq_false_iff_ne.2 h0];rfl
  have H0:=Lib.hid h0
  clear h0
  have k3:=chg_three w1 (w.heap.size+1) (.int .i64 0) (.string ⟨#[]⟩) (.slice none 0 0)
  have h3:=block_three_all Hb1'.out (.int .i64 0) (.string ⟨#[]⟩) (.slice none 0 0)
  have q3:=k3.at Hb2'.out (fun e=>by have e:w.heap.size+1+1=w.heap.size+1:=e;omega)
  have k4:=(Chg.refl (At1 (w.heap.size+1+1)) (((w1.setCell ⟨w.heap.size+1,0,none⟩ (.int .i64 0)).setCell ⟨w.heap.size+1,1,none⟩ (.string ⟨#[]⟩)).setCell ⟨w.heap.size+1,2,none⟩ (.slice none 0 0))).setCell (p:=⟨w.heap.size+1+1,0,none⟩) (fun _=>rfl) (.int .i64 (checkN t))
  have H4:=Lib.hid (k4.at h3 (fun e=>by have e:w.heap.size+1=w.heap.size+1+1:=e;omega))
  have Q4:=Lib.hid (block_one_set (u:= .int .i64 (checkN t)) q3)
  have k24:Chg (fun k=>k=w.heap.size+1∨k=w.heap.size+1+1) w1 _:=(k3.mono (fun _ _ e=> .inl e)).trans k4 (fun _ _ e=> .inr e)
  have Hc4:Hid (Chg Nob w _):=((hcw.any (S:=fun k=>k=w.heap.size+1∨k=w.heap.size+1+1)).trans1 k24 |>.mono (fun i hi e=>by rcases e with e | e <;> omega):Chg Nob w _)
  have hN0:Hid (normN t=checkN t):=(show normN t=checkN t by unfold normN;rw [if_neg H0.out])
  clear k3 h3 q3 k4 k24
  go_wp2_with fail
  refine (show Leaves _ _ _ _ [] .returning _ from ⟨_,results34 rfl rfl H4.out Q4.out,Hc4.out,_,?_,by rw [hN0.out]⟩)
  rw [normT,if_neg (by rw [hN0.out];exact H0.out)]
  exact fresh_zero
end Go.Proofs.YtkgfdgfhpdhhaaaGreat
namespace Go.Proofs.YtkgfdgfhpdhhaaaGreat
open Go.ChangeShapes Go.WideShapes Go.RowKit Go.Shelf Go.Sort
attribute [local go_sem] Oper.semAt_some
def headK:List T→Int
 | []=>0
 | a::_=>a.kind
end Go.Proofs.YtkgfdgfhpdhhaaaGreat
