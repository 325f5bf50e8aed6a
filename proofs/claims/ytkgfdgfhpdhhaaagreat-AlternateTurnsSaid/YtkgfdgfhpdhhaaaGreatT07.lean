/- The iterator over a formula's parts. Conditions: as each theorem states. -/
import Derived.Test.YtkgfdgfhpdhhaaaGreatT06
import Derived.Shelf.RegionOpen
import Derived.Sort.LoopGhostIn
namespace Go.Proofs.YtkgfdgfhpdhhaaaGreat
set_option maxRecDepth 100000
set_option maxHeartbeats 4000000
open Go.ChangeShapes Go.WideShapes Go.RowKit Go.Shelf
theorem rdI {F:Fence} {n:Nat} {P:Program} {md:Region.Mode} {ops:Array Oper} {Q:Exit→Act→World→Prop} (i:Nat) {o:Oper} {fuel:Nat} {listed:Array Bool} {a:Act} {w:World}
 (h:∀ K':Act→World→Prop,(∀ a w,wpAnyIn F n P md ops Q fuel (listed.setIfInBounds i true) a w→K' a w)→Oper.wpIn F n P o a w K' Q)
 (hr:Region.ready md ops listed=[i]:=by kernel_rfl) (ho:ops[i]? = some o:=by rfl) (hw:Region.wanted o (yielded ops a.tmps)=true:=by kernel_rfl):wpAnyIn F n P md ops Q (fuel+1) listed a w :=
 wpAnyIn_ready hr (by simp) (AllReadyIn.cons ho (fun K hK=>by rw [if_pos hw];exact h K hK) AllReadyIn.nil)
attribute [local go_sem] Oper.semAt_some
theorem wpAnyIn_append {F:Fence} {n:Nat} {P:Program} {md:Region.Mode} {ops:Array Oper} {Q:Exit→Act→World→Prop} {fuel:Nat} {listed:Array Bool} {a:Act} {w:World} (i:Nat) (hr:Region.ready md ops listed=[i])
 (dst:Option Tmp) (s x:Operand) (ats:Array TypeId) (ty:TypeId) (pos:String) (after:Array Edge) (ho:ops[i]? = some { dst,op:= .call { callee:= .builtin .append,args:=#[s,x],argTypes:=ats },type:=ty,pos,after,guard:=none })
 (v xv:Value) (hs:a.eval s=v) (hx:a.eval x=xv) (v':Value) (w':World) (hrun:(Builtin.append_ ats ty #[v,xv]).run P w = .ok v' w') (h:wpAnyIn F n P md ops Q fuel (listed.setIfInBounds i true) (a.put dst v') w') :
 wpAnyIn F n P md ops Q (fuel+1) listed a w:=by
 refine ⟨fun e=>(by rw [hr] at e;cases e),fun j hj=>?_⟩
 rw [hr] at hj
 obtain rfl:j=i:=by simpa using hj
 unfold wpOpIn
 simp only [ho]
 simp only [Region.wanted,if_true]
 refine ⟨fun f hf=>by simp [Oper.about,resolve,Target.leads] at hf,?_⟩
 rw [Oper.semAt_eq _ _ _ (fun c h=>by cases h),BigFrame.execOp_builtin,BigFrame.builtin_append]
 simp only [List.map_toArray,List.map_cons,List.map_nil,Sem.run_bind,Sem.run_pure,Result.andThen_ok,hs,hx,hrun]
 exact h
theorem fin97 {n lo b:Nat} {R:Ending→World→Prop} {ds:List Deferred} {tm:Array Value} {wr:World} (hm:Marks wr b ds) (hf:From lo ds)
 (h:∀ v W',Chg (fun k=>lo≤k∧∃ r,wr.heap[k]? = some (.deferred r)) wr W'→R (.returned v) W'):LeavesInM Fence.wide n Tryz.prog Tryz.f133 tm R ds .returning wr :=
 leaves_marks hm hf (fun W' hW'=>⟨_,results_none rfl _ _ _,h _ W' hW'⟩)
theorem steps_marks {n0 lo n1:Nat} {A B:World} (h:Chg (fun k=>lo≤k∧∃ r,A.heap[k]? = some (.deferred r)) A B) (hl:n1≤lo):Steps E9 n0 n1 A B :=
 Chg.mono h (fun i _ e=>⟨Nat.le_trans hl e.1,fun ⟨o,ho,hs⟩=>by obtain ⟨r,hr⟩:=e.2;rw [hr] at ho;cases ho;exact deferred_not_str _ hs⟩)
mutual
theorem preT_kp {R:Nat→Prop} {w W:World} (h:Kp R w W):∀ (t:T) (v:Value),IsTree R w t v→preT W t v=preT w t v
 | .node k nm kids,v,ht=>by
   rw [IsTree] at ht
   obtain ⟨ao,cap,rfl,_,hk⟩:=ht
   rw [preT,preT]
   exact congrArg _ (preL_kp h ao 0 kids hk)
theorem preL_kp {R:Nat→Prop} {w W:World} (h:Kp R w W) (ao:Option Addr):∀ (i:Nat) (l:List T),IsKids R w ao i l→preL W ao i l=preL w ao i l
 | _,[],_=>by rw [preL,preL]
 | i,t::ts,hk=>by
   rw [IsKids] at hk
   obtain ⟨⟨b,o,k,nm,sl,rfl,hb,c0,c1,c2,ht⟩,hts⟩:=hk
   have e:kidV w (some ⟨b,o,none⟩) i = .agg #[.int .i64 k,.string nm,sl]:=by simp only [kidV,c0,c1,c2,Option.getD_some]
   have e2:kidV W (some ⟨b,o,none⟩) i = .agg #[.int .i64 k,.string nm,sl]:=by simp only [kidV,h.cell hb c0,h.cell hb c1,h.cell hb c2,Option.getD_some]
   rw [preL,preL,e,e2,preL_kp h _ (i+1) ts hts,preT_kp h t _ ht]
end
theorem kp_chg {S C:Nat→Prop} {A B:World} (h:Chg C A B) (hs:∀ b,S b→¬ C b):Kp S A B:=fun _ _ hS ho=>h.at ho (hs _ hS)
theorem parts_iter (n0 n:Nat) (hn:3≤n) (R V0:Nat→Prop) (B:Nat) (t:T) (v a b c:Value) (hv:v = .agg #[a,b,c]) (w:World) (hB:w.heap[B]? = some (.cells #[a,b,c] 24 (0,0)))
 (ht:IsTree R w t v) (hN:sizeT t≤1000000) (hR:∀ b,R b→¬ V0 b∧b < n0) (_hVB:¬ V0 B) (hV0:∀ k,V0 k→k < w.heap.size) (hB0:n0≤B) :
 Iter E9 n0 n 133 #[.pointer (some ⟨B,0,none⟩)] (fun (x:T × Value)=>#[x.2]) V0 (preT w t v) w:=by
 subst hv
 intro l J Jx W hcW hl hlW hJ hJx hY h0
 have htW:IsTree R W t (.agg #[a,b,c]):=ht.nob hcW
 have hpre:=preT_kp (kp_chg hcW (fun _ _ e=>e):Kp R w W) t _ ht
 rw [← hpre] at hY
 rw [← hpre]
 have hst0:preT W t (.agg #[a,b,c])=[]++still W [(t,.agg #[a,b,c])]:=by simp [still]
 have hxl:(preT W t (.agg #[a,b,c])).length≤1000000:=by
  have:=congrArg List.length (preT_all W t (.agg #[a,b,c]))
  rw [List.length_map,allT_length] at this
  omega
 generalize preT W t (.agg #[a,b,c])=xs at *
 clear hpre
 have hBW:=hcW.at hB (fun e=>e)
 have c0:=cell_row hBW 0 (v:=a) rfl
 have c1:=cell_row hBW 1 (v:=b) rfl
 have c2:=cell_row hBW 2 (v:=c) rfl
 refine callsIn_of_wp_marks Tryz.func133 rfl trivial ?_ rfl
 simp only [Tryz.ntmps133,List.size_toArray,List.length_cons,List.length_nil,Nat.reduceAdd,Nat.reduceSub,Array.replicate_succ,Array.replicate_zero,List.push_toArray,List.append_toArray,List.nil_append,List.cons_append]
 have HY:=Lib.hid hY
 clear hY
 gi_wp2
 have Hst0:=Lib.hid hst0
 clear hst0
 have hJs:Jst n0 J W:=hJ
 have h1n:1≤n:=by omega
 have hn0W:n0≤W.heap.size:=by have:=hcW.size;have:=(Array.getElem?_eq_some_iff.1 hB).1;omega
 have hV':∀ k,(k=l∨V0 k)→k < W.heap.size∧¬ R k:=by
  rintro k (rfl | hk)
  ·exact ⟨hlW,fun e=>by have:=(hR k e).2;have:=(Array.getElem?_eq_some_iff.1 hB).1;omega⟩
  ·exact ⟨by have:=hV0 k hk;omega,fun e=>(hR k e).1 hk⟩
 refine wpIn_loop_ghost_k (fun gk act wr=>∃ u4 u6 u9 u10 u11 u12 u13 u14 u15 u16 u17 u18 u19 u20 u21 u22 u23 u24 u25 u26 u27 u28 u29 u30 u31 u32 u33 u34 u35 u36 u37 pre st rv ds,act={ tmps:=List.toArray (Value.func (Fn.yield l) #[] #[]::Value.pointer (some { block:=B,off:=0 })::undef::Value.pointer (some { block:=W.heap.size+1,off:=0 })::u4::undef::u6::Value.agg #[a,b,c]::Value.slice (some { block:=W.heap.size,off:=0 }) 1 1::u9::u10::u11::u12::u13::u14::u15::u16::u17::u18::u19::u20::u21::u22::u23::u24::u25::u26::u27::u28::u29::u30::u31::u32::u33::u34::u35::u36::u37::[]),defers:=ds }∧Hid (Core n0 R J W pre st rv wr.heap.size ds wr)∧Hid (xs=pre++still W st)∧gk=(still W st).length) (still W [(t,.agg #[a,b,c])]).length ?_ ?_
 ·refine ⟨_,_,_,_,_,_,_,_,_,_,_,_,_,_,_,_,_,_,_,_,_,_,_,_,_,_,_,_,_,_,_,[],[(t,.agg #[a,b,c])],.slice (some ⟨W.heap.size,0,none⟩) 1 1,[],rfl,?_,Hst0,rfl⟩
  have ha:=heap_alloc_new W (.cells #[a,b,c] 24)
  have hb:=heap_alloc_new (W.alloc (.cells #[a,b,c] 24)) (.cells #[.slice (some ⟨W.heap.size,0,none⟩) 1 1] 22)
  rw [World.size_alloc] at hb
  have hc2:Chg Nob W ((W.alloc (.cells #[a,b,c] 24)).alloc (.cells #[.slice (some ⟨W.heap.size,0,none⟩) 1 1] 22)):=((Chg.refl _ _).alloc _).alloc _
  refine ⟨fun x hx=>?_,⟨by simp [cellsOf,vc],.inr ⟨W.heap.size,1,#[a,b,c],rfl,Nat.le_refl _,((Chg.refl Nob _).alloc _).at ha (fun e=>e),by simp,by decide,by simp,by simp [cellsOf,vc]⟩⟩,hb,fun b o _ ho=>hc2.at ho (fun e=>e),hJ _ _ _ h0 (Chg.any hc2),trivial,Nat.le_refl _,fun d hd=>by cases hd⟩
  obtain rfl:x=(t,.agg #[a,b,c]):=by simpa using hx
  exact htW
 ·intro gk act wr hinv JJ KK hJJ hKK
  obtain ⟨u4,u6,u9,u10,u11,u12,u13,u14,u15,u16,u17,u18,u19,u20,u21,u22,u23,u24,u25,u26,u27,u28,u29,u30,u31,u32,u33,u34,u35,u36,u37,pre,st,rv,ds,rfl,hI,hS,rfl⟩:=hinv
  have c3:=cell_row hI.out.box 0 (v:=rv) rfl
  obtain ⟨ao,cap,rfl⟩:=ownsRow_shape hI.out.row
  rcases List.eq_nil_or_concat st with rfl | ⟨st0,x,rfl⟩
  ·rw [List.length_nil] at c3
   gi_wp2
   refine fin97 hI.out.marks hI.out.fromW (fun v W' hW'=>⟨⟨_,rfl⟩,.inl ?_⟩)
   have e:xs=pre:=by have:=hS.out;simpa [still] using this
   rw [e]
   exact hJ _ _ _ hI.out.j (steps_marks hW' (by omega))
  ·rw [List.concat_eq_append] at *
   obtain ⟨tx,vx⟩:=x
   have hstl:(st0++[(tx,vx)]).length=st0.length+1:=by simp
   obtain ⟨ak,capk,hvx,hkl,hkk⟩:=(show IsTree R W tx vx from hI.out.trees (tx,vx) (by simp)).parts
   subst hvx
   have hrow:=hI.out.row
   rw [hstl] at hrow
   obtain ⟨g,cap',hsv,hcells⟩:=ownsRow_some hrow (by omega)
   rw [hstl] at c3
   cases hsv
   have hc3l:(cellsOf st0).length=st0.length * 3:=cellsOf_length (fun p hp=>vc_tree (hI.out.trees p (by simp [hp])))
   have hca:cellsOf (st0++[(tx,.agg #[.int .i64 tx.kind,.string ⟨tx.name.toArray⟩,.slice ak tx.kids.length capk])])=cellsOf st0++[.int .i64 tx.kind,.string ⟨tx.name.toArray⟩,.slice ak tx.kids.length capk]:=by
    rw [cellsOf_append];rfl
   rw [hca] at hrow
   have q0:=ownsRow_at hrow (j:=st0.length * 3) (u:= .int .i64 tx.kind) (by rw [List.getElem?_append_right (by omega),hc3l,Nat.sub_self];rfl)
   have q1:=ownsRow_at hrow (j:=st0.length * 3+1) (u:= .string ⟨tx.name.toArray⟩) (by rw [List.getElem?_append_right (by omega),hc3l,Nat.add_sub_cancel_left];rfl)
   have q2:=ownsRow_at hrow (j:=st0.length * 3+2) (u:= .slice ak tx.kids.length capk) (by rw [List.getElem?_append_right (by omega),hc3l,Nat.add_sub_cancel_left];rfl)
   have hpop:xs=pre++(tx,.agg #[.int .i64 tx.kind,.string ⟨tx.name.toArray⟩,.slice ak tx.kids.length capk])::(preL W ak 0 tx.kids++still W st0):=by
    have:=hS.out
    cases tx with
    | node k nm kids=>rw [still_pop] at this;exact this
   have hlx:st0.length+1≤1000000:=by
    have e:=congrArg List.length hpop
    have:=still_length W st0
    simp only [List.length_append,List.length_cons] at e
    omega
   have hcapl:=ownsRow_cap hrow
   have hcap0:st0.length≤cap:=by omega
   have hC1:=hI.out.nob hJs ((Chg.refl Nob wr).alloc (.cells #[.int .i64 tx.kind,.string ⟨tx.name.toArray⟩,.slice ak tx.kids.length capk] 24))
   have hC2:=(Core.cut (m:=(st0++[(tx,Value.agg #[.int .i64 tx.kind,.string ⟨tx.name.toArray⟩,.slice ak tx.kids.length capk])]).length) hI.out hJs rfl).nob hJs ((Chg.refl Nob _).alloc (.cells #[.int .i64 tx.kind,.string ⟨tx.name.toArray⟩,.slice ak tx.kids.length capk] 24))
   have hbl:=(Array.getElem?_eq_some_iff.1 hI.out.box).1
   have hnew2:=heap_alloc_new (wr.setCell ⟨W.heap.size+1,0,none⟩ (.slice (some ⟨g,0,none⟩) st0.length cap)) (.cells #[.int .i64 tx.kind,.string ⟨tx.name.toArray⟩,.slice ak tx.kids.length capk] 24)
   rw [World.size_setCell] at hnew2
   have c3':=cell_row hC1.box 0 (v:=_) rfl
   rw [hstl] at c3'
   have hfz:(wr.alloc (.cells #[.int .i64 tx.kind,.string ⟨tx.name.toArray⟩,.slice ak tx.kids.length capk] 24)).frozen? ⟨W.heap.size+1,0,none⟩=false:=by simp [World.frozen?,hC1.box]
   obtain ⟨t0,t1,t2,_,_⟩:=cell_three hnew2
   have HC2:=Lib.hid hC2
   have Hpop:=Lib.hid hpop
   clear hrow hcells hca hc3l hBW c0 c1 c2 hC1 hC2 hpop hS
   have hp:(0:Int) < (st0.length:Int)+1:=by omega
   have e1:wrap64 (((st0.length+1:Nat):Int) - 1)=(st0.length:Int):=by unfold wrap64;omega
   have e2:(0:Int)≤(st0.length:Int):=by omega
   have e3:(st0.length:Int) < ((st0.length+1:Nat):Int):=by omega
   have hprex:pre++[(tx,Value.agg #[.int .i64 tx.kind,.string ⟨tx.name.toArray⟩,.slice ak tx.kids.length capk])] <+: xs:=by rw [Hpop.out];exact ⟨preL W ak 0 tx.kids++still W st0,by simp⟩
   have hy:=HY.out pre _ _ HC2.out.j hprex
   obtain ⟨fn,tmps,assign,body,hyr,hR3⟩:=hy
   dsimp only at hyr hR3
   gi_wp2
   refine hR3.mono ?_
   clear hR3 hyr q0 q1 q2 c3 c3' t0 t1 t2 hfz
   rintro e W3 (⟨rfl,hJ3,hks⟩ | ⟨rfl,hJx3,hks⟩)
   ·have hC3:=HC2.out.keeps hks hV' hn0W (fun b hb=>(hR b hb).2) hJ3
    have hnew3:=hks.same _ _ hnew2 (fun e=>by have:=(hV' _ e).1;omega) (by rintro ⟨_,cs,t,m,e1,e2⟩;cases e1;cases e2)
    obtain ⟨t0,t1,t2,_,_⟩:=cell_three hnew3
    have hbk:=(callsIn_wide (n:=n - 1)).2 (backward_any (.slice ak tx.kids.length capk) ak _ capk rfl W3)
    gi_wp2
    refine ⟨trivial,hbk.mono ?_⟩
    clear hbk
    rintro e W4 ⟨rfl,rfl⟩
    gi_wp2
    refine range_iter (E:=E79) (n0:=n0) (V0:=fun k=>k=W.heap.size+1) (gf:=164) (xs:=rev tx.kids.length) h1n rfl (enters_of Tryz.func164 (by kernel_rfl) rfl) (back_iter E79 n0 (n - 1) (by omega) R (fun k=>k=W.heap.size+1) W3.heap.size ak capk tx.kids _ (heap_alloc_new W3 _) hkl ?_ ?_ ?_ ?_) ?_ (fun _=>rfl)
     (fun p W'=>∃ rv,Core n0 R J W (pre++[(tx,Value.agg #[.int .i64 tx.kind,.string ⟨tx.name.toArray⟩,.slice ak tx.kids.length capk])]) (st0++p.map (kd W ak tx.kids)) rv W3.heap.size ds W') (fun _ _ _=>False) ?_ (fun _ _ _ _ h _=>h) ?_ ?_ ?_ (fun _ _ _ _ h=>h.elim)
    ·exact hkk.kp (hC3.kp.chg (C:=Nob) ((Chg.refl _ _).alloc _) (fun _ _ e=>e))
    ·exact fun b hb=>⟨fun e=>by have:=(hR b hb).2;omega,(hR b hb).2⟩
    ·intro e;have:=(Array.getElem?_eq_some_iff.1 hC3.box).1;omega
    ·rintro (h | h) <;> cases h
    ·rintro k rfl;rw [World.size_alloc];have:=(Array.getElem?_eq_some_iff.1 hC3.box).1;omega
    ·rintro p A B ⟨rv,hc⟩ hs
     rw [World.size_alloc] at hs
     exact ⟨rv,hc.steps hJs hs (by omega) (by have:=(Array.getElem?_eq_some_iff.1 hC3.box).1;omega) hn0W (fun b hb=>(hR b hb).2)⟩
    ·rw [List.map_nil,List.append_nil]
     exact ⟨_,(hC3.up hC3.mbl (Nat.le_refl _)).nob hJs ((Chg.refl _ _).alloc _)⟩
    ·intro l' p x Wc hIc hpx hszc
     obtain ⟨rv,hIc⟩:=hIc
     obtain ⟨rest,hrest⟩:=hpx
     rw [List.append_assoc] at hrest
     obtain ⟨hr1,hr2⟩:=rev_split hrest.symm
     obtain ⟨m,hm⟩:∃ m,tx.kids.length - p.length=m+1:=by
      cases h:tx.kids.length - p.length with
      | zero=>rw [h] at hr1;simp [rev] at hr1
      | succ m=>exact ⟨m,rfl⟩
     rw [hm,rev_succ] at hr1
     obtain rfl:x=m:=by simp at hr1;exact hr1.1
     have hlt:x < tx.kids.length:=by omega
     obtain ⟨u,hu⟩:∃ u,tx.kids[x]? = some u:=⟨_,List.getElem?_eq_getElem hlt⟩
     obtain ⟨b1,o1,a1,cap1,rfl,hRb,z0,z1,z2,hv1,htu⟩:=kidV_eq hkk hu
     have hkw:kidV (W3.alloc (Obj.cells #[Value.slice (some ⟨b1,o1,none⟩) tx.kids.length capk] 22)) (some ⟨b1,o1,none⟩) x=kidV W (some ⟨b1,o1,none⟩) x:=kidV_kp (hC3.kp.chg (C:=Nob) ((Chg.refl _ _).alloc _) (fun _ _ e=>e)) hkk hu
     rw [hkw,hv1]
     simp only [zip2,List.setIfInBounds_toArray,List.set_cons_succ,List.set_cons_zero]
     gi_wp2
     have ha:Chg Nob Wc (Wc.alloc (.cells #[.int .i64 u.kind,.string ⟨u.name.toArray⟩,.slice a1 u.kids.length cap1] 24)):=(Chg.refl _ _).alloc _
     refine ⟨Keeps.of_chg ha.any,fun W2 hc2 hs2=>?_⟩
     rw [World.size_alloc] at hs2 hc2 hszc
     have hb3:=(Array.getElem?_eq_some_iff.1 hC3.box).1
     have hcW3:W.heap.size≤W3.heap.size:=by omega
     have hC5:=(hIc.nob hJs ha).steps hJs hs2 (by omega) (by omega) hn0W (fun b hb=>(hR b hb).2)
     have hn6:=hc2.at (heap_alloc_new Wc _) (fun e=>by have e:Wc.heap.size=W3.heap.size+1+1:=e;have:=hs2.size;have:=hszc;omega)
     obtain ⟨ao5,cap5,rfl⟩:=ownsRow_shape hC5.row
     obtain ⟨N,hN⟩:∃ N,(st0++p.map (kd W (some ⟨b1,o1,none⟩) tx.kids)).length=N:=⟨_,rfl⟩
     have hrow5:=hC5.row
     have hlk:N≤1000000:=by
      have e:=congrArg List.length Hpop.out
      have:=still_length W st0
      have:=preL_length W (some ⟨b1,o1,none⟩) tx.kids 0
      simp only [List.length_append,List.length_cons] at e
      rw [← hN,List.length_append,List.length_map]
      omega
     have b5:=cell_row hC5.box 0 (v:=_) rfl
     have hc5l:(cellsOf (st0++p.map (kd W (some ⟨b1,o1,none⟩) tx.kids))).length=N * 3:=by rw [cellsOf_length (fun q hq=>vc_tree (hC5.trees q hq)),hN]
     rw [hN] at hrow5 b5
     have hz:=(Chg.refl Nob (W2.alloc (.cells #[.int .i64 0,.string { data:=#[] },.slice none 0 0] 24))).drew.at (heap_alloc_new W2 (.cells #[.int .i64 0,.string { data:=#[] },.slice none 0 0] 24)) (fun e=>e)
     have hca2:Chg Nob W2 (W2.alloc (.cells #[.int .i64 0,.string { data:=#[] },.slice none 0 0] 24)).drew:=((Chg.refl _ _).alloc _).drew
     obtain ⟨g',cap6,w6,hap,hrow6,hgr6,hg6,hg6l⟩:=append37 (ys:=zeroT) (ownsRow_chg hrow5 hca2 (fun _ _ e=>e)) (by have:=hC5.mbl;have:=hca2.size;omega) (by omega) rfl oneCell_zero hz
     have Hap:Sem.run Tryz.prog (Builtin.append_ #[22,22] 22 #[.slice ao5 (N) cap5,.slice (some ⟨W2.heap.size,0,none⟩) 1 1]) (W2.alloc (.cells #[.int .i64 0,.string { data:=#[] },.slice none 0 0] 24)).drew = .ok (.slice (some ⟨g',0,none⟩) (N+1) cap6) w6:=hap
     have hmix:Tryz.prog.follows .mixedOrders=true:=by kernel_rfl
     obtain ⟨y0,y1,y2,_,_⟩:=cell_three hn6
     have hcz:Chg Nob W2 (W2.alloc (.cells #[.int .i64 0,.string { data:=#[] },.slice none 0 0] 24)):=(Chg.refl _ _).alloc _
     have b5z:=hcz.cell' b5 (fun e=>e)
     have y0z:=hcz.cell' y0 (fun e=>e)
     have y1z:=hcz.cell' y1 (fun e=>e)
     have y2z:=hcz.cell' y2 (fun e=>e)
     have hf0:=ownsRow_frozen hrow6 (N * 3)
     have hf1:=ownsRow_frozen hrow6 (N * 3+1)
     have hf2:=ownsRow_frozen hrow6 (N * 3+2)
     have hne6:=ownsRow_ne_type (ownsRow_chg hrow5 hca2 (fun _ _ e=>e)) (hca2.at hC5.box (fun e=>e)) (by decide)
     have hca6:Chg (fun k=>Value.ownBlock (.slice ao5 (N) cap5)=some k) (W2.alloc (.cells #[.int .i64 0,.string { data:=#[] },.slice none 0 0] 24)).drew w6:=(Chg.refl _ _).grown hgr6 (fun k hk _=>hk)
     have hbox6:=hca6.at (hca2.at hC5.box (fun e=>e)) (fun e=>(hne6 _ e).2 rfl)
     have hfb:w6.frozen? ⟨W.heap.size+1,0,none⟩=false:=by simp [World.frozen?,hbox6]
     have hcb:=cell_row hbox6 0 (v:=_) rfl
     have e5:(0:Int)≤(N:Int):=by omega
     have e6:(N:Int) < (N:Int)+1:=by omega
     have hgb:¬ g'=W.heap.size+1:=by
      rcases hg6 with h | h
      ·exact (hne6 _ h).2
      ·rw [h];have:=(Array.getElem?_eq_some_iff.1 hC5.box).1;have:=hca2.size;omega
     have hgb':¬ W.heap.size+1=g':=fun e=>hgb e.symm
     have x0:=ownsRow_at hrow6 (j:=N * 3) (u:= .int .i64 0) (by rw [List.getElem?_append_right (by omega),hc5l,Nat.sub_self];rfl)
     have x1:=ownsRow_at hrow6 (j:=N * 3+1) (u:= .string { data:=#[] }) (by rw [List.getElem?_append_right (by omega),hc5l,Nat.add_sub_cancel_left];rfl)
     have x2:=ownsRow_at hrow6 (j:=N * 3+2) (u:= .slice none 0 0) (by rw [List.getElem?_append_right (by omega),hc5l,Nat.add_sub_cancel_left];rfl)
     have hpush:kd W (some ⟨b1,o1,none⟩) tx.kids x=(u,.agg #[.int .i64 u.kind,.string ⟨u.name.toArray⟩,.slice a1 u.kids.length cap1]):=by
      unfold kd
      rw [hv1,List.getD_eq_getElem?_getD,hu];rfl
     have hcat:st0++(p++[x]).map (kd W (some ⟨b1,o1,none⟩) tx.kids)=(st0++p.map (kd W (some ⟨b1,o1,none⟩) tx.kids))++[(u,.agg #[.int .i64 u.kind,.string ⟨u.name.toArray⟩,.slice a1 u.kids.length cap1])]:=by
      rw [List.map_append,← List.append_assoc,List.map_cons,List.map_nil,hpush]
     have hcc:cellsOf ((st0++p.map (kd W (some ⟨b1,o1,none⟩) tx.kids))++[(u,.agg #[.int .i64 u.kind,.string ⟨u.name.toArray⟩,.slice a1 u.kids.length cap1])])=cellsOf (st0++p.map (kd W (some ⟨b1,o1,none⟩) tx.kids))++[.int .i64 u.kind,.string ⟨u.name.toArray⟩,.slice a1 u.kids.length cap1]:=by rw [cellsOf_append];rfl
     have hch:∀ B,Chg (At1 g') w6 B∨Chg (fun k=>k=W.heap.size+1∨k=g') w6 B→Chg (fun k=>k=W.heap.size+1∨Value.ownBlock (.slice ao5 (st0++p.map (kd W (some ⟨b1,o1,none⟩) tx.kids)).length cap5)=some k) W2 B:=by
      intro B hB
      have hB2:Chg (fun k=>k=W.heap.size+1∨k=g') w6 B:=hB.elim (fun h=>h.mono (fun _ _ e=> .inr e)) id
      have j0:Chg (fun k=>k=W.heap.size+1∨Value.ownBlock (.slice ao5 (st0++p.map (kd W (some ⟨b1,o1,none⟩) tx.kids)).length cap5)=some k) (W2.alloc (.cells #[.int .i64 0,.string { data:=#[] },.slice none 0 0] 24)).drew w6:=hca6.mono (fun k _ hk=>by show _∨_;exact .inr (by cases ao5 <;> exact hk))
      have j1:=Chg.trans1 (Chg.any hca2) j0
      refine j1.trans hB2 ?_
      rintro k hk (rfl | rfl)
      ·exact .inl rfl
      ·rcases hg6 with h | h
       ·exact .inr (by cases ao5 <;> exact h)
       ·have:=hca2.size;omega
     have hs1:=store37 hrow6 hc5l (.int .i64 u.kind) (.string ⟨u.name.toArray⟩) (.slice a1 u.kids.length cap1)
     have F1:Keeps E79 n0 (fun k=>k=W.heap.size+1) W2 ((((w6.setCell ⟨g',N * 3,none⟩ (.int .i64 u.kind)).setCell ⟨g',N * 3+1,none⟩ (.string ⟨u.name.toArray⟩)).setCell ⟨g',N * 3+2,none⟩ (.slice a1 u.kids.length cap1)).setCell ⟨W.heap.size+1,0,none⟩ (.slice (some ⟨g',0,none⟩) (N+1) cap6)) ∧
      ∃ rv,Core n0 R J W (pre++[(tx,Value.agg #[.int .i64 tx.kind,.string ⟨tx.name.toArray⟩,.slice (some ⟨b1,o1,none⟩) tx.kids.length capk])]) (st0++(p++[x]).map (kd W (some ⟨b1,o1,none⟩) tx.kids)) rv W3.heap.size ds ((((w6.setCell ⟨g',N * 3,none⟩ (.int .i64 u.kind)).setCell ⟨g',N * 3+1,none⟩ (.string ⟨u.name.toArray⟩)).setCell ⟨g',N * 3+2,none⟩ (.slice a1 u.kids.length cap1)).setCell ⟨W.heap.size+1,0,none⟩ (.slice (some ⟨g',0,none⟩) (N+1) cap6)):=by
      have k1:Chg (At1 g') w6 (((w6.setCell ⟨g',N * 3,none⟩ (.int .i64 u.kind)).setCell ⟨g',N * 3+1,none⟩ (.string ⟨u.name.toArray⟩)).setCell ⟨g',N * 3+2,none⟩ (.slice a1 u.kids.length cap1)) :=
       (((Chg.refl (At1 g') _).setCell (p:=⟨g',N * 3,none⟩) (fun _=>rfl) _).setCell (p:=⟨g',N * 3+1,none⟩) (fun _=>rfl) _).setCell (p:=⟨g',N * 3+2,none⟩) (fun _=>rfl) _
      have k2:=k1.at hbox6 (fun e=>hgb e.symm)
      have hp:=hC5.push hJs (q:=(u,.agg #[.int .i64 u.kind,.string ⟨u.name.toArray⟩,.slice a1 u.kids.length cap1])) (by rw [hv1] at htu;exact htu)
       (hch _ (.inr (Chg.setCell (k1.mono (fun _ _ e=> .inr e)) (p:=⟨W.heap.size+1,0,none⟩) (fun _=> .inl rfl) (.slice (some ⟨g',0,none⟩) (N+1) cap6))))
       (by rw [hN,hcc];exact ownsRow_setCell_type hs1 k2 (by decide) _) (block_one_set k2) hn0W (fun b hb=>(hR b hb).2)
      rw [hcat]
      exact ⟨hp.2,_,hp.1⟩
     have F2:Keeps E79 n0 (fun k=>k=W.heap.size+1) W2 ((((w6.setCell ⟨W.heap.size+1,0,none⟩ (.slice (some ⟨g',0,none⟩) (N+1) cap6)).setCell ⟨g',N * 3,none⟩ (.int .i64 u.kind)).setCell ⟨g',N * 3+1,none⟩ (.string ⟨u.name.toArray⟩)).setCell ⟨g',N * 3+2,none⟩ (.slice a1 u.kids.length cap1)) ∧
      ∃ rv,Core n0 R J W (pre++[(tx,Value.agg #[.int .i64 tx.kind,.string ⟨tx.name.toArray⟩,.slice (some ⟨b1,o1,none⟩) tx.kids.length capk])]) (st0++(p++[x]).map (kd W (some ⟨b1,o1,none⟩) tx.kids)) rv W3.heap.size ds ((((w6.setCell ⟨W.heap.size+1,0,none⟩ (.slice (some ⟨g',0,none⟩) (N+1) cap6)).setCell ⟨g',N * 3,none⟩ (.int .i64 u.kind)).setCell ⟨g',N * 3+1,none⟩ (.string ⟨u.name.toArray⟩)).setCell ⟨g',N * 3+2,none⟩ (.slice a1 u.kids.length cap1)):=by
      have k0:=ownsRow_setCell_type (o:=0) hrow6 hbox6 (by decide) (.slice (some ⟨g',0,none⟩) (N+1) cap6)
      have k1:Chg (fun k=>k=W.heap.size+1∨k=g') w6 ((((w6.setCell ⟨W.heap.size+1,0,none⟩ (.slice (some ⟨g',0,none⟩) (N+1) cap6)).setCell ⟨g',N * 3,none⟩ (.int .i64 u.kind)).setCell ⟨g',N * 3+1,none⟩ (.string ⟨u.name.toArray⟩)).setCell ⟨g',N * 3+2,none⟩ (.slice a1 u.kids.length cap1)) :=
       ((((Chg.refl _ _).setCell (p:=⟨W.heap.size+1,0,none⟩) (fun _=> .inl rfl) _).setCell (p:=⟨g',N * 3,none⟩) (fun _=> .inr rfl) _).setCell (p:=⟨g',N * 3+1,none⟩) (fun _=> .inr rfl) _).setCell (p:=⟨g',N * 3+2,none⟩) (fun _=> .inr rfl) _
      have k3:Chg (At1 g') (w6.setCell ⟨W.heap.size+1,0,none⟩ (.slice (some ⟨g',0,none⟩) (N+1) cap6)) ((((w6.setCell ⟨W.heap.size+1,0,none⟩ (.slice (some ⟨g',0,none⟩) (N+1) cap6)).setCell ⟨g',N * 3,none⟩ (.int .i64 u.kind)).setCell ⟨g',N * 3+1,none⟩ (.string ⟨u.name.toArray⟩)).setCell ⟨g',N * 3+2,none⟩ (.slice a1 u.kids.length cap1)) :=
       (((Chg.refl (At1 g') _).setCell (p:=⟨g',N * 3,none⟩) (fun _=>rfl) _).setCell (p:=⟨g',N * 3+1,none⟩) (fun _=>rfl) _).setCell (p:=⟨g',N * 3+2,none⟩) (fun _=>rfl) _
      have hp:=hC5.push hJs (q:=(u,.agg #[.int .i64 u.kind,.string ⟨u.name.toArray⟩,.slice a1 u.kids.length cap1])) (by rw [hv1] at htu;exact htu)
       (hch _ (.inr k1)) (by rw [hN,hcc];exact store37 k0 hc5l _ _ _) (k3.at (block_one_set hbox6) (fun e=>hgb e.symm)) hn0W (fun b hb=>(hR b hb).2)
      rw [hcat]
      exact ⟨hp.2,_,hp.1⟩
     have F1:=Lib.hid F1
     have F2:=Lib.hid F2
     clear hs1 hch hcc hcat hpush
     clear hap hN hc5l hrow6 hrow5
     gi_wp2
     refine wpIn_region_any hmix ?_
     change wpAnyIn _ _ _ _ _ _ _ _ _ (World.drew _)
     refine wpAnyIn_ready (rs:=[0,1,3]) (by kernel_rfl) (by simp) ?_
     refine AllReadyIn.cons rfl (fun K hK=>?_) (AllReadyIn.cons rfl (fun K hK=>?_) (AllReadyIn.cons rfl (fun K hK=>?_) AllReadyIn.nil))
     ·go_simp
      refine hK _ _ ?_;clear hK K
      refine wpAnyIn_ready (rs:=[1,2,3]) (by kernel_rfl) (by simp) ?_
      refine AllReadyIn.cons rfl (fun K hK=>?_) (AllReadyIn.cons rfl (fun K hK=>?_) (AllReadyIn.cons rfl (fun K hK=>?_) AllReadyIn.nil))
      ·go_simp
       refine hK _ _ ?_;clear hK K
       refine wpAnyIn_ready (rs:=[2,3]) (by kernel_rfl) (by simp) ?_
       refine AllReadyIn.cons rfl (fun K hK=>?_) (AllReadyIn.cons rfl (fun K hK=>?_) AllReadyIn.nil)
       ·go_simp
        refine hK _ _ ?_;clear hK K
        refine rdI 3 fun K hK=>?_
        go_simp
        refine hK _ _ ?_;clear hK K
        refine wpAnyIn_append 4 (by kernel_rfl) _ _ _ _ _ _ _ rfl _ _ rfl rfl _ _ Hap ?_
        refine wpAnyIn_ready (rs:=[5,7]) (by kernel_rfl) (by simp) ?_
        refine AllReadyIn.cons rfl (fun K hK=>?_) (AllReadyIn.cons rfl (fun K hK=>?_) AllReadyIn.nil)
        ·go_simp
         refine hK _ _ ?_;clear hK K
         refine wpAnyIn_ready (rs:=[6,7]) (by kernel_rfl) (by simp) ?_
         refine AllReadyIn.cons rfl (fun K hK=>?_) (AllReadyIn.cons rfl (fun K hK=>?_) AllReadyIn.nil)
         ·go_simp
          refine hK _ _ ?_;clear hK K
          refine rdI 7 fun K hK=>?_
          go_simp
          refine hK _ _ ?_;clear hK K
          refine wpAnyIn_done (by kernel_rfl) ?_ _
          exact F1.out
         ·go_simp
          refine hK _ _ ?_;clear hK K
          refine rdI 6 fun K hK=>?_
          go_simp
          refine hK _ _ ?_;clear hK K
          refine wpAnyIn_done (by kernel_rfl) ?_ _
          exact F2.out
        ·go_simp
         refine hK _ _ ?_;clear hK K
         refine rdI 5 fun K hK=>?_
         go_simp
         refine hK _ _ ?_;clear hK K
         refine rdI 6 fun K hK=>?_
         go_simp
         refine hK _ _ ?_;clear hK K
         refine wpAnyIn_done (by kernel_rfl) ?_ _
         exact F2.out
       ·go_simp
        refine hK _ _ ?_;clear hK K
        refine rdI 2 fun K hK=>?_
        go_simp
        refine hK _ _ ?_;clear hK K
        refine wpAnyIn_append 4 (by kernel_rfl) _ _ _ _ _ _ _ rfl _ _ rfl rfl _ _ Hap ?_
        refine wpAnyIn_ready (rs:=[5,7]) (by kernel_rfl) (by simp) ?_
        refine AllReadyIn.cons rfl (fun K hK=>?_) (AllReadyIn.cons rfl (fun K hK=>?_) AllReadyIn.nil)
        ·go_simp
         refine hK _ _ ?_;clear hK K
         refine wpAnyIn_ready (rs:=[6,7]) (by kernel_rfl) (by simp) ?_
         refine AllReadyIn.cons rfl (fun K hK=>?_) (AllReadyIn.cons rfl (fun K hK=>?_) AllReadyIn.nil)
         ·go_simp
          refine hK _ _ ?_;clear hK K
          refine rdI 7 fun K hK=>?_
          go_simp
          refine hK _ _ ?_;clear hK K
          refine wpAnyIn_done (by kernel_rfl) ?_ _
          exact F1.out
         ·go_simp
          refine hK _ _ ?_;clear hK K
          refine rdI 6 fun K hK=>?_
          go_simp
          refine hK _ _ ?_;clear hK K
          refine wpAnyIn_done (by kernel_rfl) ?_ _
          exact F2.out
        ·go_simp
         refine hK _ _ ?_;clear hK K
         refine rdI 5 fun K hK=>?_
         go_simp
         refine hK _ _ ?_;clear hK K
         refine rdI 6 fun K hK=>?_
         go_simp
         refine hK _ _ ?_;clear hK K
         refine wpAnyIn_done (by kernel_rfl) ?_ _
         exact F2.out
      ·go_simp
       refine hK _ _ ?_;clear hK K
       refine wpAnyIn_ready (rs:=[1,3]) (by kernel_rfl) (by simp) ?_
       refine AllReadyIn.cons rfl (fun K hK=>?_) (AllReadyIn.cons rfl (fun K hK=>?_) AllReadyIn.nil)
       ·go_simp
        refine hK _ _ ?_;clear hK K
        refine rdI 3 fun K hK=>?_
        go_simp
        refine hK _ _ ?_;clear hK K
        refine wpAnyIn_append 4 (by kernel_rfl) _ _ _ _ _ _ _ rfl _ _ rfl rfl _ _ Hap ?_
        refine wpAnyIn_ready (rs:=[5,7]) (by kernel_rfl) (by simp) ?_
        refine AllReadyIn.cons rfl (fun K hK=>?_) (AllReadyIn.cons rfl (fun K hK=>?_) AllReadyIn.nil)
        ·go_simp
         refine hK _ _ ?_;clear hK K
         refine wpAnyIn_ready (rs:=[6,7]) (by kernel_rfl) (by simp) ?_
         refine AllReadyIn.cons rfl (fun K hK=>?_) (AllReadyIn.cons rfl (fun K hK=>?_) AllReadyIn.nil)
         ·go_simp
          refine hK _ _ ?_;clear hK K
          refine rdI 7 fun K hK=>?_
          go_simp
          refine hK _ _ ?_;clear hK K
          refine wpAnyIn_done (by kernel_rfl) ?_ _
          exact F1.out
         ·go_simp
          refine hK _ _ ?_;clear hK K
          refine rdI 6 fun K hK=>?_
          go_simp
          refine hK _ _ ?_;clear hK K
          refine wpAnyIn_done (by kernel_rfl) ?_ _
          exact F2.out
        ·go_simp
         refine hK _ _ ?_;clear hK K
         refine rdI 5 fun K hK=>?_
         go_simp
         refine hK _ _ ?_;clear hK K
         refine rdI 6 fun K hK=>?_
         go_simp
         refine hK _ _ ?_;clear hK K
         refine wpAnyIn_done (by kernel_rfl) ?_ _
         exact F2.out
       ·go_simp
        refine hK _ _ ?_;clear hK K
        refine rdI 1 fun K hK=>?_
        go_simp
        refine hK _ _ ?_;clear hK K
        refine wpAnyIn_append 4 (by kernel_rfl) _ _ _ _ _ _ _ rfl _ _ rfl rfl _ _ Hap ?_
        refine wpAnyIn_ready (rs:=[5,7]) (by kernel_rfl) (by simp) ?_
        refine AllReadyIn.cons rfl (fun K hK=>?_) (AllReadyIn.cons rfl (fun K hK=>?_) AllReadyIn.nil)
        ·go_simp
         refine hK _ _ ?_;clear hK K
         refine wpAnyIn_ready (rs:=[6,7]) (by kernel_rfl) (by simp) ?_
         refine AllReadyIn.cons rfl (fun K hK=>?_) (AllReadyIn.cons rfl (fun K hK=>?_) AllReadyIn.nil)
         ·go_simp
          refine hK _ _ ?_;clear hK K
          refine rdI 7 fun K hK=>?_
          go_simp
          refine hK _ _ ?_;clear hK K
          refine wpAnyIn_done (by kernel_rfl) ?_ _
          exact F1.out
         ·go_simp
          refine hK _ _ ?_;clear hK K
          refine rdI 6 fun K hK=>?_
          go_simp
          refine hK _ _ ?_;clear hK K
          refine wpAnyIn_done (by kernel_rfl) ?_ _
          exact F2.out
        ·go_simp
         refine hK _ _ ?_;clear hK K
         refine rdI 5 fun K hK=>?_
         go_simp
         refine hK _ _ ?_;clear hK K
         refine rdI 6 fun K hK=>?_
         go_simp
         refine hK _ _ ?_;clear hK K
         refine wpAnyIn_done (by kernel_rfl) ?_ _
         exact F2.out
      ·go_simp
       refine hK _ _ ?_;clear hK K
       refine wpAnyIn_ready (rs:=[1,2]) (by kernel_rfl) (by simp) ?_
       refine AllReadyIn.cons rfl (fun K hK=>?_) (AllReadyIn.cons rfl (fun K hK=>?_) AllReadyIn.nil)
       ·go_simp
        refine hK _ _ ?_;clear hK K
        refine rdI 2 fun K hK=>?_
        go_simp
        refine hK _ _ ?_;clear hK K
        refine wpAnyIn_append 4 (by kernel_rfl) _ _ _ _ _ _ _ rfl _ _ rfl rfl _ _ Hap ?_
        refine wpAnyIn_ready (rs:=[5,7]) (by kernel_rfl) (by simp) ?_
        refine AllReadyIn.cons rfl (fun K hK=>?_) (AllReadyIn.cons rfl (fun K hK=>?_) AllReadyIn.nil)
        ·go_simp
         refine hK _ _ ?_;clear hK K
         refine wpAnyIn_ready (rs:=[6,7]) (by kernel_rfl) (by simp) ?_
         refine AllReadyIn.cons rfl (fun K hK=>?_) (AllReadyIn.cons rfl (fun K hK=>?_) AllReadyIn.nil)
         ·go_simp
          refine hK _ _ ?_;clear hK K
          refine rdI 7 fun K hK=>?_
          go_simp
          refine hK _ _ ?_;clear hK K
          refine wpAnyIn_done (by kernel_rfl) ?_ _
          exact F1.out
         ·go_simp
          refine hK _ _ ?_;clear hK K
          refine rdI 6 fun K hK=>?_
          go_simp
          refine hK _ _ ?_;clear hK K
          refine wpAnyIn_done (by kernel_rfl) ?_ _
          exact F2.out
        ·go_simp
         refine hK _ _ ?_;clear hK K
         refine rdI 5 fun K hK=>?_
         go_simp
         refine hK _ _ ?_;clear hK K
         refine rdI 6 fun K hK=>?_
         go_simp
         refine hK _ _ ?_;clear hK K
         refine wpAnyIn_done (by kernel_rfl) ?_ _
         exact F2.out
       ·go_simp
        refine hK _ _ ?_;clear hK K
        refine rdI 1 fun K hK=>?_
        go_simp
        refine hK _ _ ?_;clear hK K
        refine wpAnyIn_append 4 (by kernel_rfl) _ _ _ _ _ _ _ rfl _ _ rfl rfl _ _ Hap ?_
        refine wpAnyIn_ready (rs:=[5,7]) (by kernel_rfl) (by simp) ?_
        refine AllReadyIn.cons rfl (fun K hK=>?_) (AllReadyIn.cons rfl (fun K hK=>?_) AllReadyIn.nil)
        ·go_simp
         refine hK _ _ ?_;clear hK K
         refine wpAnyIn_ready (rs:=[6,7]) (by kernel_rfl) (by simp) ?_
         refine AllReadyIn.cons rfl (fun K hK=>?_) (AllReadyIn.cons rfl (fun K hK=>?_) AllReadyIn.nil)
         ·go_simp
          refine hK _ _ ?_;clear hK K
          refine rdI 7 fun K hK=>?_
          go_simp
          refine hK _ _ ?_;clear hK K
          refine wpAnyIn_done (by kernel_rfl) ?_ _
          exact F1.out
         ·go_simp
          refine hK _ _ ?_;clear hK K
          refine rdI 6 fun K hK=>?_
          go_simp
          refine hK _ _ ?_;clear hK K
          refine wpAnyIn_done (by kernel_rfl) ?_ _
          exact F2.out
        ·go_simp
         refine hK _ _ ?_;clear hK K
         refine rdI 5 fun K hK=>?_
         go_simp
         refine hK _ _ ?_;clear hK K
         refine rdI 6 fun K hK=>?_
         go_simp
         refine hK _ _ ?_;clear hK K
         refine wpAnyIn_done (by kernel_rfl) ?_ _
         exact F2.out
     ·go_simp
      refine hK _ _ ?_;clear hK K
      refine wpAnyIn_ready (rs:=[0,3]) (by kernel_rfl) (by simp) ?_
      refine AllReadyIn.cons rfl (fun K hK=>?_) (AllReadyIn.cons rfl (fun K hK=>?_) AllReadyIn.nil)
      ·go_simp
       refine hK _ _ ?_;clear hK K
       refine wpAnyIn_ready (rs:=[2,3]) (by kernel_rfl) (by simp) ?_
       refine AllReadyIn.cons rfl (fun K hK=>?_) (AllReadyIn.cons rfl (fun K hK=>?_) AllReadyIn.nil)
       ·go_simp
        refine hK _ _ ?_;clear hK K
        refine rdI 3 fun K hK=>?_
        go_simp
        refine hK _ _ ?_;clear hK K
        refine wpAnyIn_append 4 (by kernel_rfl) _ _ _ _ _ _ _ rfl _ _ rfl rfl _ _ Hap ?_
        refine wpAnyIn_ready (rs:=[5,7]) (by kernel_rfl) (by simp) ?_
        refine AllReadyIn.cons rfl (fun K hK=>?_) (AllReadyIn.cons rfl (fun K hK=>?_) AllReadyIn.nil)
        ·go_simp
         refine hK _ _ ?_;clear hK K
         refine wpAnyIn_ready (rs:=[6,7]) (by kernel_rfl) (by simp) ?_
         refine AllReadyIn.cons rfl (fun K hK=>?_) (AllReadyIn.cons rfl (fun K hK=>?_) AllReadyIn.nil)
         ·go_simp
          refine hK _ _ ?_;clear hK K
          refine rdI 7 fun K hK=>?_
          go_simp
          refine hK _ _ ?_;clear hK K
          refine wpAnyIn_done (by kernel_rfl) ?_ _
          exact F1.out
         ·go_simp
          refine hK _ _ ?_;clear hK K
          refine rdI 6 fun K hK=>?_
          go_simp
          refine hK _ _ ?_;clear hK K
          refine wpAnyIn_done (by kernel_rfl) ?_ _
          exact F2.out
        ·go_simp
         refine hK _ _ ?_;clear hK K
         refine rdI 5 fun K hK=>?_
         go_simp
         refine hK _ _ ?_;clear hK K
         refine rdI 6 fun K hK=>?_
         go_simp
         refine hK _ _ ?_;clear hK K
         refine wpAnyIn_done (by kernel_rfl) ?_ _
         exact F2.out
       ·go_simp
        refine hK _ _ ?_;clear hK K
        refine rdI 2 fun K hK=>?_
        go_simp
        refine hK _ _ ?_;clear hK K
        refine wpAnyIn_append 4 (by kernel_rfl) _ _ _ _ _ _ _ rfl _ _ rfl rfl _ _ Hap ?_
        refine wpAnyIn_ready (rs:=[5,7]) (by kernel_rfl) (by simp) ?_
        refine AllReadyIn.cons rfl (fun K hK=>?_) (AllReadyIn.cons rfl (fun K hK=>?_) AllReadyIn.nil)
        ·go_simp
         refine hK _ _ ?_;clear hK K
         refine wpAnyIn_ready (rs:=[6,7]) (by kernel_rfl) (by simp) ?_
         refine AllReadyIn.cons rfl (fun K hK=>?_) (AllReadyIn.cons rfl (fun K hK=>?_) AllReadyIn.nil)
         ·go_simp
          refine hK _ _ ?_;clear hK K
          refine rdI 7 fun K hK=>?_
          go_simp
          refine hK _ _ ?_;clear hK K
          refine wpAnyIn_done (by kernel_rfl) ?_ _
          exact F1.out
         ·go_simp
          refine hK _ _ ?_;clear hK K
          refine rdI 6 fun K hK=>?_
          go_simp
          refine hK _ _ ?_;clear hK K
          refine wpAnyIn_done (by kernel_rfl) ?_ _
          exact F2.out
        ·go_simp
         refine hK _ _ ?_;clear hK K
         refine rdI 5 fun K hK=>?_
         go_simp
         refine hK _ _ ?_;clear hK K
         refine rdI 6 fun K hK=>?_
         go_simp
         refine hK _ _ ?_;clear hK K
         refine wpAnyIn_done (by kernel_rfl) ?_ _
         exact F2.out
      ·go_simp
       refine hK _ _ ?_;clear hK K
       refine rdI 0 fun K hK=>?_
       go_simp
       refine hK _ _ ?_;clear hK K
       refine rdI 2 fun K hK=>?_
       go_simp
       refine hK _ _ ?_;clear hK K
       refine wpAnyIn_append 4 (by kernel_rfl) _ _ _ _ _ _ _ rfl _ _ rfl rfl _ _ Hap ?_
       refine wpAnyIn_ready (rs:=[5,7]) (by kernel_rfl) (by simp) ?_
       refine AllReadyIn.cons rfl (fun K hK=>?_) (AllReadyIn.cons rfl (fun K hK=>?_) AllReadyIn.nil)
       ·go_simp
        refine hK _ _ ?_;clear hK K
        refine wpAnyIn_ready (rs:=[6,7]) (by kernel_rfl) (by simp) ?_
        refine AllReadyIn.cons rfl (fun K hK=>?_) (AllReadyIn.cons rfl (fun K hK=>?_) AllReadyIn.nil)
        ·go_simp
         refine hK _ _ ?_;clear hK K
         refine rdI 7 fun K hK=>?_
         go_simp
         refine hK _ _ ?_;clear hK K
         refine wpAnyIn_done (by kernel_rfl) ?_ _
         exact F1.out
        ·go_simp
         refine hK _ _ ?_;clear hK K
         refine rdI 6 fun K hK=>?_
         go_simp
         refine hK _ _ ?_;clear hK K
         refine wpAnyIn_done (by kernel_rfl) ?_ _
         exact F2.out
       ·go_simp
        refine hK _ _ ?_;clear hK K
        refine rdI 5 fun K hK=>?_
        go_simp
        refine hK _ _ ?_;clear hK K
        refine rdI 6 fun K hK=>?_
        go_simp
        refine hK _ _ ?_;clear hK K
        refine wpAnyIn_done (by kernel_rfl) ?_ _
        exact F2.out
     ·go_simp
      refine hK _ _ ?_;clear hK K
      refine wpAnyIn_ready (rs:=[0,1]) (by kernel_rfl) (by simp) ?_
      refine AllReadyIn.cons rfl (fun K hK=>?_) (AllReadyIn.cons rfl (fun K hK=>?_) AllReadyIn.nil)
      ·go_simp
       refine hK _ _ ?_;clear hK K
       refine wpAnyIn_ready (rs:=[1,2]) (by kernel_rfl) (by simp) ?_
       refine AllReadyIn.cons rfl (fun K hK=>?_) (AllReadyIn.cons rfl (fun K hK=>?_) AllReadyIn.nil)
       ·go_simp
        refine hK _ _ ?_;clear hK K
        refine rdI 2 fun K hK=>?_
        go_simp
        refine hK _ _ ?_;clear hK K
        refine wpAnyIn_append 4 (by kernel_rfl) _ _ _ _ _ _ _ rfl _ _ rfl rfl _ _ Hap ?_
        refine wpAnyIn_ready (rs:=[5,7]) (by kernel_rfl) (by simp) ?_
        refine AllReadyIn.cons rfl (fun K hK=>?_) (AllReadyIn.cons rfl (fun K hK=>?_) AllReadyIn.nil)
        ·go_simp
         refine hK _ _ ?_;clear hK K
         refine wpAnyIn_ready (rs:=[6,7]) (by kernel_rfl) (by simp) ?_
         refine AllReadyIn.cons rfl (fun K hK=>?_) (AllReadyIn.cons rfl (fun K hK=>?_) AllReadyIn.nil)
         ·go_simp
          refine hK _ _ ?_;clear hK K
          refine rdI 7 fun K hK=>?_
          go_simp
          refine hK _ _ ?_;clear hK K
          refine wpAnyIn_done (by kernel_rfl) ?_ _
          exact F1.out
         ·go_simp
          refine hK _ _ ?_;clear hK K
          refine rdI 6 fun K hK=>?_
          go_simp
          refine hK _ _ ?_;clear hK K
          refine wpAnyIn_done (by kernel_rfl) ?_ _
          exact F2.out
        ·go_simp
         refine hK _ _ ?_;clear hK K
         refine rdI 5 fun K hK=>?_
         go_simp
         refine hK _ _ ?_;clear hK K
         refine rdI 6 fun K hK=>?_
         go_simp
         refine hK _ _ ?_;clear hK K
         refine wpAnyIn_done (by kernel_rfl) ?_ _
         exact F2.out
       ·go_simp
        refine hK _ _ ?_;clear hK K
        refine rdI 1 fun K hK=>?_
        go_simp
        refine hK _ _ ?_;clear hK K
        refine wpAnyIn_append 4 (by kernel_rfl) _ _ _ _ _ _ _ rfl _ _ rfl rfl _ _ Hap ?_
        refine wpAnyIn_ready (rs:=[5,7]) (by kernel_rfl) (by simp) ?_
        refine AllReadyIn.cons rfl (fun K hK=>?_) (AllReadyIn.cons rfl (fun K hK=>?_) AllReadyIn.nil)
        ·go_simp
         refine hK _ _ ?_;clear hK K
         refine wpAnyIn_ready (rs:=[6,7]) (by kernel_rfl) (by simp) ?_
         refine AllReadyIn.cons rfl (fun K hK=>?_) (AllReadyIn.cons rfl (fun K hK=>?_) AllReadyIn.nil)
         ·go_simp
          refine hK _ _ ?_;clear hK K
          refine rdI 7 fun K hK=>?_
          go_simp
          refine hK _ _ ?_;clear hK K
          refine wpAnyIn_done (by kernel_rfl) ?_ _
          exact F1.out
         ·go_simp
          refine hK _ _ ?_;clear hK K
          refine rdI 6 fun K hK=>?_
          go_simp
          refine hK _ _ ?_;clear hK K
          refine wpAnyIn_done (by kernel_rfl) ?_ _
          exact F2.out
        ·go_simp
         refine hK _ _ ?_;clear hK K
         refine rdI 5 fun K hK=>?_
         go_simp
         refine hK _ _ ?_;clear hK K
         refine rdI 6 fun K hK=>?_
         go_simp
         refine hK _ _ ?_;clear hK K
         refine wpAnyIn_done (by kernel_rfl) ?_ _
         exact F2.out
      ·go_simp
       refine hK _ _ ?_;clear hK K
       refine rdI 0 fun K hK=>?_
       go_simp
       refine hK _ _ ?_;clear hK K
       refine rdI 2 fun K hK=>?_
       go_simp
       refine hK _ _ ?_;clear hK K
       refine wpAnyIn_append 4 (by kernel_rfl) _ _ _ _ _ _ _ rfl _ _ rfl rfl _ _ Hap ?_
       refine wpAnyIn_ready (rs:=[5,7]) (by kernel_rfl) (by simp) ?_
       refine AllReadyIn.cons rfl (fun K hK=>?_) (AllReadyIn.cons rfl (fun K hK=>?_) AllReadyIn.nil)
       ·go_simp
        refine hK _ _ ?_;clear hK K
        refine wpAnyIn_ready (rs:=[6,7]) (by kernel_rfl) (by simp) ?_
        refine AllReadyIn.cons rfl (fun K hK=>?_) (AllReadyIn.cons rfl (fun K hK=>?_) AllReadyIn.nil)
        ·go_simp
         refine hK _ _ ?_;clear hK K
         refine rdI 7 fun K hK=>?_
         go_simp
         refine hK _ _ ?_;clear hK K
         refine wpAnyIn_done (by kernel_rfl) ?_ _
         exact F1.out
        ·go_simp
         refine hK _ _ ?_;clear hK K
         refine rdI 6 fun K hK=>?_
         go_simp
         refine hK _ _ ?_;clear hK K
         refine wpAnyIn_done (by kernel_rfl) ?_ _
         exact F2.out
       ·go_simp
        refine hK _ _ ?_;clear hK K
        refine rdI 5 fun K hK=>?_
        go_simp
        refine hK _ _ ?_;clear hK K
        refine rdI 6 fun K hK=>?_
        go_simp
        refine hK _ _ ?_;clear hK K
        refine wpAnyIn_done (by kernel_rfl) ?_ _
        exact F2.out
    ·rintro W5 ⟨rv,hc⟩ hd
     rw [World.size_alloc] at hd
     have hpu:=still_push W ak tx.kids st0
     dsimp only
     rw [World.size_alloc]
     refine hKK _ _ ⟨(still W (st0++(rev tx.kids.length).map (kd W ak tx.kids))).length,?_,hJJ _ _ _ ⟨_,_,_,_,_,_,_,_,_,_,_,_,_,_,_,_,_,_,_,_,_,_,_,_,_,_,_,_,_,_,_,pre++[(tx,Value.agg #[.int .i64 tx.kind,.string ⟨tx.name.toArray⟩,.slice ak tx.kids.length capk])],st0++(rev tx.kids.length).map (kd W ak tx.kids),rv,{ target:= .collected (W3.heap.size+1),args:=#[] }::ds,rfl,?_,?_,rfl⟩⟩
     ·cases tx with
      | node k nm kids =>
        rw [still_pop]
        rw [hpu]
        simp only [List.length_cons,kidsAt]
        exact Nat.lt_succ_self _
     ·have hb5:=(Array.getElem?_eq_some_iff.1 hd).1
      have hb3:=(Array.getElem?_eq_some_iff.1 hC3.box).1
      refine ⟨hc.trees,hc.row,hc.box,hc.kp,hc.j,((hc.marks.le (by omega)).push hd).le (by omega),Nat.le_refl _,?_⟩
      intro d hd'
      rcases List.mem_cons.1 hd' with rfl | hd'
      ·exact ⟨_,rfl,by omega⟩
      ·exact hc.fromW d hd'
     ·show _=_
      rw [hpu,Hpop.out]
      simp
   ·have hC8:Core n0 R (fun _ _=>True) W pre st0 (.slice (some ⟨g,0,none⟩) st0.length cap) wr.heap.size ds ((wr.setCell ⟨W.heap.size+1,0,none⟩ (.slice (some ⟨g,0,none⟩) st0.length cap)).alloc (.cells #[.int .i64 tx.kind,.string ⟨tx.name.toArray⟩,.slice ak tx.kids.length capk] 24)):={ HC2.out with j:=trivial }
    have hC9:=hC8.keeps (pre':=[]) hks hV' hn0W (fun b hb=>(hR b hb).2) trivial
    gi_wp2
    refine fin97 hC9.marks hC9.fromW (fun v W' hW'=>⟨⟨_,rfl⟩,.inr ⟨_,hprex,hJx _ _ _ hJx3 (steps_marks hW' (by omega))⟩⟩)
end Go.Proofs.YtkgfdgfhpdhhaaaGreat
