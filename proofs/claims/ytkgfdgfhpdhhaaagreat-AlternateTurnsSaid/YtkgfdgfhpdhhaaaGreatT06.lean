/- Parts of the walks and of the plain theory, the first: The iterator from a list's end to its start. Conditions: as each theorem states. A formula's parts in their order; the marks that ranges leave. Conditions: as each theorem states. Rows of formulas that a call owns. Conditions: as each theorem states. -/
import Derived.Test.YtkgfdgfhpdhhaaaGreatT05
import Derived.Test.YtkgfdgfhpdhhaaaGreatT01
import Derived.Deep.AppendLies
namespace Go.Proofs.YtkgfdgfhpdhhaaaGreat
set_option maxRecDepth 100000
set_option maxHeartbeats 2000000
open Go.ChangeShapes Go.WideShapes Go.RowKit Go.Shelf
attribute [local go_sem] Oper.semAt_some
def kidV (w:World) (ao:Option Addr) (j:Nat):Value :=
 match ao with
 | some ⟨b,o,_⟩=> .agg #[(w.cell? ⟨b,o+j * 3,none⟩).getD .nilFunc,(w.cell? ⟨b,o+j * 3+1,none⟩).getD .nilFunc,(w.cell? ⟨b,o+j * 3+2,none⟩).getD .nilFunc]
 | none=> .nilFunc
def rev (len:Nat):List Nat:=(List.range len).reverse
theorem rev_succ (len:Nat):rev (len+1)=len::rev len:=by unfold rev;rw [List.range_succ,List.reverse_append];rfl
theorem rev_split:∀ {len:Nat} {pre rest:List Nat},rev len=pre++rest→rest=rev (len - pre.length)∧pre.length≤len
 | len,[],rest,h=>⟨by rw [← (show rev len=rest from h)];rfl,Nat.zero_le _⟩
 | 0,x::pre,rest,h=>by simp [rev] at h
 | len+1,x::pre,rest,h=>by
   rw [rev_succ] at h
   simp at h
   have:=rev_split h.2
   simp only [List.length_cons]
   exact ⟨by rw [this.1];congr 1;omega,by omega⟩
def Kp (S:Nat→Prop) (w wr:World):Prop:=∀ b o,S b→w.heap[b]? = some o→wr.heap[b]? = some o
theorem Kp.cell {S:Nat→Prop} {w wr:World} (h:Kp S w wr) {a:Addr} {v:Value} (hS:S a.block) (hc:w.cell? a=some v):wr.cell? a=some v:=by
 have hlt:=World.block_lt_of_cell? w a hc
 have e:=h a.block _ hS (Array.getElem?_eq_getElem hlt)
 rw [World.cell?_of_block (w:=w) (by rw [e,Array.getElem?_eq_getElem hlt])]
 exact hc
theorem Kp.keeps {E:Nat→Prop} {n0:Nat} {S V:Nat→Prop} {w A B:World} (h:Kp S w A) (hk:Keeps E n0 V A B) (hs:∀ b o,S b→w.heap[b]? = some o→¬ V b∧¬ isStr E n0 b o):Kp S w B :=
 fun b o hS ho=>hk.same b o (h b o hS ho) (hs b o hS ho).1 (hs b o hS ho).2
theorem Kp.chg {S C:Nat→Prop} {w A B:World} (h:Kp S w A) (hk:Chg C A B) (hs:∀ b,S b→¬ C b):Kp S w B :=
 fun b o hS ho=>hk.at (h b o hS ho) (hs b hS)
theorem kidV_eq {R:Nat→Prop} {w:World} {ao:Option Addr} {kids:List T} (hk:IsKids R w ao 0 kids) {j:Nat} {t:T} (ht:kids[j]? = some t) :
 ∃ b o ak cap,ao=some ⟨b,o,none⟩∧R b∧w.cell? ⟨b,o+j * 3,none⟩=some (.int .i64 t.kind)∧w.cell? ⟨b,o+j * 3+1,none⟩=some (.string ⟨t.name.toArray⟩)∧w.cell? ⟨b,o+j * 3+2,none⟩=some (.slice ak t.kids.length cap) ∧
   kidV w ao j = .agg #[.int .i64 t.kind,.string ⟨t.name.toArray⟩,.slice ak t.kids.length cap]∧IsTree R w t (kidV w ao j):=by
 obtain ⟨b,o,ak,cap,rfl,hb,q0,q1,q2,hl,hk2,ht⟩:=hk.kid ht
 have e:kidV w (some ⟨b,o,none⟩) j = .agg #[.int .i64 t.kind,.string ⟨t.name.toArray⟩,.slice ak t.kids.length cap]:=by
  simp only [kidV,q0,q1,q2,Option.getD_some]
 exact ⟨b,o,ak,cap,rfl,hb,q0,q1,q2,e,by rw [e];exact ht⟩
def intM1:Value→Nat
 | .int _ z=>(z+1).toNat
 | _=>0
theorem back_iter (E:Nat→Prop) (n0 n:Nat) (hn:1≤n) (R V0:Nat→Prop) (B:Nat) (ao:Option Addr) (cap:Nat) (kids:List T) (w:World) (hB:w.heap[B]? = some (.cells #[.slice ao kids.length cap] 22 (0,0)))
 (hlen:kids.length≤9223372036854775807) (hk:IsKids R w ao 0 kids) (hR:∀ b,R b→¬ V0 b∧b < n0) (hVB:¬ V0 B) (hE:¬ E 22) :
 Iter E n0 n 164 #[.pointer (some ⟨B,0,none⟩)] (fun (j:Nat)=>#[.int .i64 (j:Int),kidV w ao j]) V0 (rev kids.length) w:=by
 intro l J Jx W hcW hl hlW hJ hJx hY h0
 have hBW:=hcW.at hB (fun e=>e)
 have c0:=cell_row hBW 0 (v:= .slice ao kids.length cap) rfl
 have hw1:wrap64 ((kids.length:Int) - 1)=(kids.length:Int) - 1:=by unfold wrap64;omega
 refine callsIn_of_wp Tryz.func164 rfl trivial ?_ rfl
 simp only [Tryz.ntmps164,List.size_toArray,List.length_cons,List.length_nil,Nat.reduceAdd,Nat.reduceSub,Array.replicate_succ,Array.replicate_zero,List.push_toArray,List.append_toArray,List.nil_append,List.cons_append]
 gi_wp2
 have HY:=Lib.hid hY
 have Hk:=Lib.hid hk
 clear hY hk
 gi_loopw [3] (fun i wr=>∃ pre rest,i = .int .i64 (((kids.length - pre.length:Nat):Int) - 1)∧Hid (rev kids.length=pre++rest)∧Hid (Kp (fun b=>R b∨b=B) w wr)∧J pre wr) (fun i _=>intM1 i)
 case atStart=>exact ⟨[],rev kids.length,rfl,(show _=_ from rfl),(show Kp _ w W from fun b o _ ho=>hcW.at ho (fun e=>e)),h0⟩
 case round =>
  obtain ⟨pre,rest,rfl,hsp,hkp,hj⟩:=hrel
  obtain ⟨hr,hpl⟩:=rev_split hsp.out
  rcases Nat.eq_zero_or_pos (kids.length - pre.length) with hz | hp
  ·have hxs:rev kids.length=pre:=by rw [hsp.out,hr,hz];simp [rev]
   have Hxs:=Lib.hid hxs
   clear hxs hr
   rw [hz]
   gi_wp2
   go_end0
   exact ⟨⟨_,rfl⟩,.inl (by rw [Hxs.out];exact hj)⟩
  ·obtain ⟨m,hm⟩:∃ m,kids.length - pre.length=m+1:=⟨_,(Nat.succ_pred_eq_of_pos hp).symm⟩
   have hlt:m < kids.length:=by omega
   obtain ⟨u,hu⟩:∃ u,kids[m]? = some u:=⟨_,List.getElem?_eq_getElem hlt⟩
   obtain ⟨b,o,ak,capk,hao,hRb,q0,q1,q2,hv,_⟩:=kidV_eq Hk.out hu
   have q0':=hkp.out.cell (.inl hRb) q0
   have q1':=hkp.out.cell (.inl hRb) q1
   have q2':=hkp.out.cell (.inl hRb) q2
   have c0':=hkp.out.cell (a:=⟨B,0,none⟩) (.inr rfl) (cell_row hB 0 (v:= .slice ao kids.length cap) rfl)
   rw [hm,rev_succ] at hr
   have hnext:rev kids.length=(pre++[m])++rev m:=by rw [hsp.out,hr];simp
   have hy:=HY.out pre m wr hj (by rw [hnext];exact List.prefix_append _ _)
   obtain ⟨fn,tmps,assign,body,hyr,hR3⟩:=hy
   have Hnext:=Lib.hid hnext
   have Hm:=Lib.hid hm
   clear hnext hsp hu q0 q1 q2 c0
   subst hao
   rw [hm]
   have e1:((m+1:Nat):Int) - 1=(m:Int):=by omega
   rw [e1]
   have e2:wrap64 ((m:Int) - 1)=(m:Int) - 1:=by unfold wrap64;omega
   have hm0:(0:Int)≤(m:Int):=by omega
   have hm1:(m:Int) < (kids.length:Int):=by omega
   rw [hv] at hyr
   have Hkp:=hkp
   clear hkp hm hr
   gi_wp2
   refine hR3.mono ?_
   rintro e W3 (⟨rfl,hJ3,hks⟩ | ⟨rfl,hJx3,_⟩)
   ·gi_wp2
    go_roundw
    case rel =>
     refine ⟨pre++[m],rev m,?_,Hnext,?_,hJ3⟩
     ·have e3:kids.length - (pre++[m]).length=m:=by have:=Hm.out;rw [List.length_append];simp;omega
      rw [e3]
     ·show Kp _ w W3
      refine Hkp.out.keeps hks ?_
      rintro b' o' (hb' | rfl) ho'
      ·have hb0:=(Array.getElem?_eq_some_iff.1 ho').1
       exact ⟨fun e=>e.elim (fun e=>by omega) (hR b' hb').1,fun e=>by have:=e.1;have:=(hR b' hb').2;omega⟩
      ·have hb0:=(Array.getElem?_eq_some_iff.1 ho').1
       refine ⟨fun e=>e.elim (fun e=>by omega) hVB,?_⟩
       rintro ⟨_,cs,t,m,e1,e2⟩
       rw [hB] at ho'
       cases ho'
       cases e1
       exact hE e2
    case measure=>simp only [intM1];omega
   ·gi_wp2
    refine bodyPost_ret (results_none rfl _ _ _) rfl ?_
    exact ⟨⟨_,rfl⟩,.inr ⟨_,by rw [Hnext.out];exact List.prefix_append _ _,hJx3⟩⟩
theorem backward_any (v:Value) (ao:Option Addr) (len cap:Nat) (hv:v = .slice ao len cap) (w:World):Calls Tryz.prog 134 #[v] w fun e w' =>
 e = .returned (.func (.func 164) #[] #[.pointer (some ⟨w.heap.size,0,none⟩)])∧w'=w.alloc (.cells #[v] 22 (0,0)):=by
 subst hv
 go_enter Tryz.func134,Tryz.ntmps134
 go_wp2_with fail
 go_ret
 exact ⟨rfl,rfl⟩
theorem parts_any (v:Value) (a b c:Value) (hv:v = .agg #[a,b,c]) (w:World):Calls Tryz.prog 79 #[v] w fun e w' =>
 e = .returned (.func (.func 133) #[] #[.pointer (some ⟨w.heap.size,0,none⟩)])∧w'=w.alloc (.cells #[a,b,c] 24 (0,0)):=by
 subst hv
 go_enter Tryz.func79,Tryz.ntmps79
 go_wp2_with fail
 go_ret
 exact ⟨rfl,rfl⟩
instance:Inhabited T:=⟨.node 0 [] []⟩
def kidsAt:Value→Option Addr
 | .agg ⟨[_,_,.slice ao _ _]⟩=>ao
 | _=>none
def vc:Value→List Value
 | .agg ⟨l⟩=>l
 | _=>[]
mutual
/-- A formula's parts, each ahead of its kids, with their values. -/
def preT (w:World):T→Value→List (T × Value)
 | .node k nm kids,v=>(.node k nm kids,v)::preL w (kidsAt v) 0 kids
def preL (w:World) (ao:Option Addr):Nat→List T→List (T × Value)
 | _,[]=>[]
 | i,t::ts=>preT w t (kidV w ao i)++preL w ao (i+1) ts
end
mutual
def allT:T→List T
 | .node k nm kids=> .node k nm kids::allL kids
def allL:List T→List T
 | []=>[]
 | t::ts=>allT t++allL ts
end
mutual
theorem preT_all (w:World):∀ (t:T) (v:Value),(preT w t v).map (·.1)=allT t
 | .node k nm kids,v=>by rw [preT,allT,List.map_cons,preL_all]
theorem preL_all (w:World) (ao:Option Addr):∀ (i:Nat) (l:List T),(preL w ao i l).map (·.1)=allL l
 | _,[]=>by rw [preL,allL];rfl
 | i,t::ts=>by rw [preL,allL,List.map_append,preT_all,preL_all]
end
mutual
theorem preT_tree {R:Nat→Prop} {w:World}:∀ (t:T) (v:Value),IsTree R w t v→∀ x∈preT w t v,IsTree R w x.1 x.2
 | .node k nm kids,v,h,x,hx=>by
   rw [preT] at hx
   rcases List.mem_cons.1 hx with rfl | hx
   ·exact h
   ·rw [IsTree] at h
    obtain ⟨ao,cap,rfl,_,hk⟩:=h
    exact preL_tree ao 0 kids hk x hx
theorem preL_tree {R:Nat→Prop} {w:World} (ao:Option Addr):∀ (i:Nat) (l:List T),IsKids R w ao i l→∀ x∈preL w ao i l,IsTree R w x.1 x.2
 | _,[],_,x,hx=>by rw [preL] at hx;cases hx
 | i,t::ts,h,x,hx=>by
   rw [IsKids] at h
   obtain ⟨⟨b,o,k,nm,sl,rfl,hb,c0,c1,c2,ht⟩,hts⟩:=h
   rw [preL] at hx
   rcases List.mem_append.1 hx with hx | hx
   ·refine preT_tree t _ ?_ x hx
    have e:kidV w (some ⟨b,o,none⟩) i = .agg #[.int .i64 k,.string nm,sl]:=by simp only [kidV,c0,c1,c2,Option.getD_some]
    rw [e];exact ht
   ·exact preL_tree _ (i+1) ts hts x hx
end
mutual
theorem allT_length:∀ t:T,(allT t).length=sizeT t
 | .node k nm kids=>by rw [allT,sizeT,List.length_cons,allL_length];omega
theorem allL_length:∀ l:List T,(allL l).length=sizeL l
 | []=>by rw [allL,sizeL];rfl
 | t::ts=>by rw [allL,sizeL,List.length_append,allT_length,allL_length]
end
theorem flatMap_ext {α β : Type} {f g : α→List β}:∀ {l:List α},(∀ a,a∈l→f a=g a)→l.flatMap f=l.flatMap g
 | [],_=>rfl
 | a::l,h=>by rw [List.flatMap_cons,List.flatMap_cons,h a List.mem_cons_self,flatMap_ext (fun b hb=>h b (List.mem_cons_of_mem _ hb))]
theorem preL_eq (w:World) (ao:Option Addr):∀ (l:List T) (i:Nat),preL w ao i l=(List.range l.length).flatMap (fun j=>preT w (l.getD j default) (kidV w ao (i+j)))
 | [],i=>by rw [preL];rfl
 | t::ts,i=>by
   rw [preL,preL_eq w ao ts (i+1),List.length_cons,List.range_succ_eq_map,List.flatMap_cons,List.flatMap_map]
   simp only [List.getD_cons_zero,List.getD_cons_succ,Nat.add_zero]
   congr 1
   refine flatMap_ext ?_
   intro j _
   rw [show i+1+j=i+j.succ by omega]
def kd (w:World) (ao:Option Addr) (kids:List T) (j:Nat):T × Value:=(kids.getD j default,kidV w ao j)
def still (w:World) (st:List (T × Value)):List (T × Value):=st.reverse.flatMap (fun p=>preT w p.1 p.2)
theorem still_push (w:World) (ao:Option Addr) (kids:List T) (st:List (T × Value)):still w (st++(rev kids.length).map (kd w ao kids))=preL w ao 0 kids++still w st:=by
 unfold still rev
 rw [List.reverse_append,List.flatMap_append,← List.map_reverse,List.reverse_reverse,List.flatMap_map,preL_eq]
 congr 1
 refine flatMap_ext ?_
 intro j _
 rw [Nat.zero_add];rfl
theorem still_pop (w:World) (st:List (T × Value)) (k:Int) (nm:List UInt8) (kids:List T) (v:Value):still w (st++[(.node k nm kids,v)])=(.node k nm kids,v)::(preL w (kidsAt v) 0 kids++still w st):=by
 unfold still
 rw [List.reverse_append]
 simp only [List.reverse_cons,List.reverse_nil,List.nil_append,List.flatMap_cons,List.cons_append]
 rw [preT]
 rfl
theorem still_length (w:World) (st:List (T × Value)):st.length≤(still w st).length:=by
 unfold still
 rw [← List.length_reverse]
 generalize st.reverse=l
 induction l with
 | nil=>simp
 | cons p l ih =>
   rw [List.flatMap_cons,List.length_append,List.length_cons]
   have:0 < (preT w p.1 p.2).length:=by
    cases p.1
    rw [preT,List.length_cons];omega
   omega
theorem preL_length (w:World) (ao:Option Addr):∀ (l:List T) (i:Nat),l.length≤(preL w ao i l).length
 | [],i=>by rw [preL];exact Nat.le_refl _
 | t::ts,i=>by
   have:=preL_length w ao ts (i+1)
   rw [preL,List.length_append,List.length_cons]
   have:0 < (preT w t (kidV w ao i)).length:=by
    cases t
    rw [preT,List.length_cons];omega
   omega
def Marks (W:World):Nat→List Deferred→Prop
 | _,[]=>True
 | b,d::ds=>∃ r,d={ target:= .collected r,args:=#[] }∧r < b∧W.heap[r]? = some (.deferred (some []))∧Marks W r ds
def From (lo:Nat) (ds:List Deferred):Prop:=∀ d∈ds,∃ r,d={ target:= .collected r,args:=#[] }∧lo≤r
theorem Marks.kp {W W':World}:∀ {b:Nat} {ds:List Deferred},Marks W b ds→(∀ r,r < b→W.heap[r]? = some (.deferred (some []))→(∃ d∈ds,d.target = .collected r)→W'.heap[r]? = some (.deferred (some [])))→Marks W' b ds
 | _,[],_,_=>trivial
 | b,d::ds,⟨r,hd,hr,ho,h⟩,hk=>⟨r,hd,hr,hk r hr ho ⟨d,List.mem_cons_self,by rw [hd]⟩,h.kp (fun q hq hqo ⟨d',hd',e⟩=>hk q (by omega) hqo ⟨d',List.mem_cons_of_mem _ hd',e⟩)⟩
theorem Marks.le {W:World} {b b':Nat} {ds:List Deferred} (h:Marks W b ds) (hb:b≤b'):Marks W b' ds:=by
 cases ds with
 | nil=>trivial
 | cons d ds=>obtain ⟨r,hd,hr,rest⟩:=h;exact ⟨r,hd,by omega,rest⟩
theorem Marks.push {W:World} {b:Nat} {ds:List Deferred} (h:Marks W b ds) (hb:W.heap[b]? = some (.deferred (some []))):Marks W (b+1) ({ target:= .collected b,args:=#[] }::ds) :=
 ⟨b,rfl,by omega,hb,h⟩
theorem leaves_marks {F:Fence} {n:Nat} {P:Program} {fn:Func} {tm:Array Value} {R:Ending→World→Prop} {lo:Nat}:∀ {ds:List Deferred} {b:Nat} {W:World},Marks W b ds→From lo ds →
 (∀ W',Chg (fun k=>lo≤k∧∃ r,W.heap[k]? = some (.deferred r)) W W'→LeavesIn F n P fn tm R [] .returning W')→LeavesInM F n P fn tm R ds .returning W
 | [],_,W,_,_,h=>h W (Chg.refl _ _)
 | d::ds,b,W,⟨r,hd,hr,ho,hm⟩,hf,h=>by
   have hlo:lo≤r:=by
    obtain ⟨r',e,hl⟩:=hf d List.mem_cons_self
    rw [hd] at e;cases e;exact hl
   have hlt:=(Array.getElem?_eq_some_iff.1 ho).1
   refine ⟨by simp,.inl ⟨r,_,by rw [hd],run_takeDeferred ho,?_⟩⟩
   have hc:Chg (fun k=>lo≤k∧∃ r,W.heap[k]? = some (.deferred r)) W (W.putObj r (.deferred none)) :=
    ⟨rfl,rfl,rfl,by simp,fun k _ hk=>World.putObj_heap_other (fun e=>hk (by subst e;exact ⟨hlo,_,ho⟩))⟩
   refine leaves_marks (b:=r) (lo:=lo) (hm.kp (fun q hq hqo _=>(World.putObj_heap_other (by omega)).trans hqo)) (fun d' hd'=>hf d' (List.mem_cons_of_mem _ hd')) (fun W' hW'=>h W' ?_)
   refine hc.trans hW' ?_
   rintro i hi ⟨h1,x,h2⟩
   refine ⟨h1,?_⟩
   by_cases hir:i=r
   ·subst hir;exact ⟨_,ho⟩
   ·rw [World.putObj_heap_other hir] at h2;exact ⟨x,h2⟩
open Go.ChangeShapes Go.WideShapes Go.RowKit
def zeroT:List Value:=[.int .i64 0,.string { data:=#[] },.slice none 0 0]
theorem Tryz.info24:(Tryz.prog.info? 24).map (fun i=>(i.zero,i.size,i.bytes))=some (some (.agg zeroT.toArray),3,48):=by kernel_rfl
theorem info37_parts:∃ i,Tryz.prog.info? 24=some i∧i.zero=some (.agg zeroT.toArray)∧i.size=3∧i.bytes=48:=by
 have h:=Tryz.info24
 cases hi:Tryz.prog.info? 24 with
 | none=>rw [hi] at h;simp at h
 | some i=>rw [hi] at h;simp at h;exact ⟨i,rfl,h.1,h.2.1,h.2.2⟩
theorem append37 {B:Nat} {w:World} {v:Value} {n:Nat} {xs ys:List Value} {g:Nat} {c:Nat} (h:w.ownsRow B 24 3 v n xs) (hB:B≤w.heap.size) (hn:n≤100000000) (hy:ys.length=3) (h1:∀ u∈ys,u.oneCell'=true) (hg:w.heap[g]? = some (.cells ys.toArray c (0,0))) :
 ∃ g' cap w',(Builtin.append_ #[22,22] 22 #[v,.slice (some ⟨g,0,none⟩) 1 1]).run Tryz.prog w = .ok (.slice (some ⟨g',0,none⟩) (n+1) cap) w'∧w'.ownsRow B 24 3 (.slice (some ⟨g',0,none⟩) (n+1) cap) (n+1) (xs++ys)∧w.grownBy w' v.ownBlock∧(v.ownBlock=some g'∨g'=w.heap.size)∧g' < w'.heap.size:=by
 obtain ⟨i,hi,hz,hs,hb⟩:=info37_parts
 exact run_append_lies (P:=Tryz.prog) w 22 22 B 24 i _ 3 48 Tryz.underlying22 hi hz hs hb rfl (by decide) v n _ h ⟨g,0,none⟩ 1 1 ys hy
  (fun j u hj=>by rw [Go.WideShapes.add_plain,Nat.zero_add];exact cell_row hg j (by simpa using hj)) h1 (by decide) (by unfold maxLen;omega) (by omega) hB _ rfl
theorem oneCell_zero:∀ u∈zeroT,u.oneCell'=true:=by
 intro u hu
 simp [zeroT] at hu
 rcases hu with rfl | rfl | rfl <;> rfl
theorem ownsRow_set {w:World} {B:Nat} {e:TypeId} {z g n cap:Nat} {xs:List Value} (h:w.ownsRow B e z (.slice (some ⟨g,0,none⟩) n cap) n xs) {j:Nat} (_hj:j < n * z) (u:Value) :
 (w.setCell ⟨g,j,none⟩ u).ownsRow B e z (.slice (some ⟨g,0,none⟩) n cap) n (xs.set j u):=by
 refine ⟨by rw [List.length_set];exact h.1,?_⟩
 rcases h.2 with ⟨h2,_⟩ | ⟨g',cap',cur,h2,hb,hg,hnc,hcm,hcs,ht⟩
 ·cases h2
 ·cases h2
  refine .inr ⟨g,cap,cur.setIfInBounds j u,rfl,hb,?_,hnc,hcm,by simpa using hcs,?_⟩
  ·simp [World.setCell,Array.getElem?_modify,hg]
  ·rw [Array.toList_setIfInBounds,List.take_set,ht]
theorem ownsRow_frozen {w:World} {B:Nat} {e:TypeId} {z g n cap:Nat} {xs:List Value} (h:w.ownsRow B e z (.slice (some ⟨g,0,none⟩) n cap) n xs) (j:Nat):w.frozen? ⟨g,j,none⟩=false:=by
 rcases h.2 with ⟨h2,_⟩ | ⟨g',cap',cur,h2,hb,hg,hnc,hcm,hcs,ht⟩
 ·cases h2
 ·cases h2
  simp [World.frozen?,hg]
theorem ownsRow_cut {w:World} {B:Nat} {e:TypeId} {z g n m cap:Nat} {xs:List Value} (h:w.ownsRow B e z (.slice (some ⟨g,0,none⟩) n cap) n xs) (hm:m≤n):w.ownsRow B e z (.slice (some ⟨g,0,none⟩) m cap) m (xs.take (m * z)):=by
 have hmz:m * z≤n * z:=Nat.mul_le_mul_right _ hm
 refine ⟨by rw [List.length_take,h.1];omega,?_⟩
 rcases h.2 with ⟨h2,_⟩ | ⟨g',cap',cur,h2,hb,hg,hnc,hcm,hcs,ht⟩
 ·cases h2
 ·cases h2
  exact .inr ⟨g,cap,cur,rfl,hb,hg,by omega,hcm,hcs,by rw [← ht,List.take_take,Nat.min_eq_left hmz]⟩
theorem ownsRow_at {w:World} {B:Nat} {e:TypeId} {z g n cap:Nat} {xs:List Value} (h:w.ownsRow B e z (.slice (some ⟨g,0,none⟩) n cap) n xs) {j:Nat} {u:Value} (hj:xs[j]? = some u):w.cell? ⟨g,j,none⟩=some u:=by
 have:=h.cells rfl j u hj
 rwa [Go.WideShapes.add_plain,Nat.zero_add] at this
theorem store37 {B:Nat} {w:World} {g n cap:Nat} {xs:List Value} {z0 z1 z2:Value} (h:w.ownsRow B 24 3 (.slice (some ⟨g,0,none⟩) (n+1) cap) (n+1) (xs++[z0,z1,z2])) (hx:xs.length=n * 3) (a b c:Value) :
 (((w.setCell ⟨g,n * 3,none⟩ a).setCell ⟨g,n * 3+1,none⟩ b).setCell ⟨g,n * 3+2,none⟩ c).ownsRow B 24 3 (.slice (some ⟨g,0,none⟩) (n+1) cap) (n+1) (xs++[a,b,c]):=by
 have h1:=ownsRow_set h (j:=n * 3) (by omega) a
 have h2:=ownsRow_set h1 (j:=n * 3+1) (by omega) b
 have h3:=ownsRow_set h2 (j:=n * 3+2) (by omega) c
 have e:(((xs++[z0,z1,z2]).set (n * 3) a).set (n * 3+1) b).set (n * 3+2) c=xs++[a,b,c]:=by
  rw [← hx]
  simp
 rwa [e] at h3
def cellsOf (l:List (T × Value)):List Value:=l.flatMap (fun p=>vc p.2)
theorem cellsOf_length:∀ {l:List (T × Value)},(∀ p∈l,(vc p.2).length=3)→(cellsOf l).length=l.length * 3
 | [],_=>rfl
 | p::l,h=>by
   unfold cellsOf
   rw [List.flatMap_cons,List.length_append,h p List.mem_cons_self]
   have:=cellsOf_length (l:=l) (fun q hq=>h q (List.mem_cons_of_mem _ hq))
   unfold cellsOf at this
   rw [this,List.length_cons];omega
theorem cellsOf_append (l m:List (T × Value)):cellsOf (l++m)=cellsOf l++cellsOf m:=List.flatMap_append
theorem vc_tree {R:Nat→Prop} {w:World} {t:T} {v:Value} (h:IsTree R w t v):(vc v).length=3:=by
 obtain ⟨ao,cap,rfl,_,_⟩:=h.parts
 rfl
end Go.Proofs.YtkgfdgfhpdhhaaaGreat
namespace Go.Proofs.YtkgfdgfhpdhhaaaGreat
open Go.ChangeShapes Go.WideShapes Go.RowKit
def E9:Nat→Prop:=fun t=>t=9
def E79:Nat→Prop:=fun t=>t=9∨t=24
theorem steps_79 {n0 n1 n2:Nat} {A B:World} (h:Steps E79 n0 n2 A B) (hn:n1≤n2):Steps E9 n0 n1 A B :=
 Chg.mono h (fun _ _ e=>⟨Nat.le_trans hn e.1,fun ⟨o,h1,h2,cs,t,m,h3,h4⟩=>e.2 ⟨o,h1,h2,cs,t,m,h3,.inl h4⟩⟩)
structure Core (n0:Nat) (R:Nat→Prop) (J:List (T × Value)→World→Prop) (W:World) (pre st:List (T × Value)) (rv:Value) (mb:Nat) (ds:List Deferred) (wr:World):Prop where
 trees:∀ x∈st,IsTree R W x.1 x.2
 row:wr.ownsRow W.heap.size 24 3 rv st.length (cellsOf st)
 box:wr.heap[W.heap.size+1]? = some (.cells #[rv] 22 (0,0))
 kp:Kp R W wr
 j:J pre wr
 marks:Marks wr mb ds
 mbl:mb≤wr.heap.size
 fromW:From (W.heap.size+2) ds
theorem Kp.chg' {S C:Nat→Prop} {w A B:World} (h:Kp S w A) (hk:Chg C A B) (hs:∀ b,S b→b < w.heap.size→¬ C b):Kp S w B :=
 fun b o hS ho=>hk.at (h b o hS ho) (hs b hS (Array.getElem?_eq_some_iff.1 ho).1)
def Jst (n0:Nat) (J:List (T × Value)→World→Prop) (W:World):Prop:=∀ (pre:List (T × Value)) (A B:World),J pre A→Steps E9 n0 W.heap.size A B→J pre B
section
variable {n0 : Nat} {R : Nat → Prop} {J : List (T × Value) → World → Prop} {W : World} {pre st : List (T × Value)} {rv : Value} {mb : Nat} {ds : List Deferred} {A B : World}
theorem Core.nob (h:Core n0 R J W pre st rv mb ds A) (hJ:Jst n0 J W) (hc:Chg Nob A B):Core n0 R J W pre st rv mb ds B where
 trees:=h.trees
 row:=ownsRow_chg h.row hc (fun _ _ e=>e)
 box:=hc.at h.box (fun e=>e)
 kp:=h.kp.chg hc (fun _ _ e=>e)
 j:=hJ _ _ _ h.j (Chg.any hc)
 marks:=h.marks.kp (fun _ _ ho _=>hc.at ho (fun e=>e))
 mbl:=Nat.le_trans h.mbl hc.size
 fromW:=h.fromW
theorem Core.cut {g m cap:Nat} {st0 st1:List (T × Value)} (h:Core n0 R J W pre (st0++st1) (.slice (some ⟨g,0,none⟩) m cap) mb ds A) (hJ:Jst n0 J W) (hm:m=(st0++st1).length) :
 Core n0 R J W pre st0 (.slice (some ⟨g,0,none⟩) st0.length cap) mb ds (A.setCell ⟨W.heap.size+1,0,none⟩ (.slice (some ⟨g,0,none⟩) st0.length cap)):=by
 subst hm
 have hc:Chg (At1 (W.heap.size+1)) A (A.setCell ⟨W.heap.size+1,0,none⟩ (.slice (some ⟨g,0,none⟩) st0.length cap)):=(Chg.refl (At1 (W.heap.size+1)) A).setCell (p:=⟨W.heap.size+1,0,none⟩) (fun _=>rfl) _
 have hlt:=(Array.getElem?_eq_some_iff.1 h.box).1
 have h0:∀ p∈st0,(vc p.2).length=3:=fun p hp=>vc_tree (h.trees p (List.mem_append_left _ hp))
 have hr:=ownsRow_cut h.row (m:=st0.length) (by simp)
 have ht:(cellsOf (st0++st1)).take (st0.length * 3)=cellsOf st0:=by
  rw [cellsOf_append,← cellsOf_length h0,List.take_left]
 rw [ht] at hr
 refine ⟨fun x hx=>h.trees x (List.mem_append_left _ hx),ownsRow_setCell_type hr h.box (by decide) _,block_one_set h.box,h.kp.chg' hc (fun b _ hb e=>by have e:b=W.heap.size+1:=e;omega),?_,?_,Nat.le_trans h.mbl hc.size,h.fromW⟩
 ·refine hJ _ _ _ h.j (hc.mono ?_)
  rintro i _ rfl
  refine ⟨by omega,?_⟩
  rintro ⟨o,ho,_,cs,t,m,e1,e2⟩
  rw [h.box] at ho
  cases ho
  cases e1
  cases e2
 ·refine h.marks.kp (fun r _ ho _=>hc.at ho ?_)
  intro e
  have e:r=W.heap.size+1:=e
  subst e
  rw [h.box] at ho
  cases ho
theorem Core.keeps {V:Nat→Prop} {pre':List (T × Value)} (h:Core n0 R J W pre st rv mb ds A) (hk:Keeps E9 n0 V A B) (hV:∀ k,V k→k < W.heap.size∧¬ R k) (_hn0:n0≤W.heap.size) (hR:∀ b,R b→b < n0) (hj:J pre' B):Core n0 R J W pre' st rv mb ds B where
 trees:=h.trees
 row:=by
  refine ⟨h.row.1,?_⟩
  rcases h.row.2 with h2 | ⟨g,cap,cur,hv,hb,hg,rest⟩
  ·exact .inl h2
  ·refine .inr ⟨g,cap,cur,hv,hb,hk.same _ _ hg (fun e=>by have:=(hV _ e).1;omega) ?_,rest⟩
   rintro ⟨_,cs,t,m,e1,e2⟩
   cases e1
   cases e2
 box:=hk.same _ _ h.box (fun e=>by have:=(hV _ e).1;omega) (by rintro ⟨_,cs,t,m,e1,e2⟩;cases e1;cases e2)
 kp:=fun b o hb ho=>hk.same b o (h.kp b o hb ho) (fun e=>(hV _ e).2 hb) (fun e=>by have:=e.1;have:=hR b hb;omega)
 j:=hj
 marks:=by
  refine h.marks.kp (fun r _ ho hd=>hk.same _ _ ho ?_ (deferred_not_str _))
  obtain ⟨d,hd,e⟩:=hd
  obtain ⟨r',e2,hr⟩:=h.fromW d hd
  rw [e2] at e
  cases e
  exact fun e=>by have:=(hV _ e).1;omega
 mbl:=Nat.le_trans h.mbl hk.size
 fromW:=h.fromW
theorem Core.steps {m:Nat} (h:Core n0 R J W pre st rv mb ds A) (hJ:Jst n0 J W) (hc:Steps E79 n0 m A B) (hm:mb≤m) (hb:W.heap.size+1 < m) (hn0:n0≤W.heap.size) (hR:∀ b,R b→b < n0):Core n0 R J W pre st rv mb ds B where
 trees:=h.trees
 row:=by
  refine ⟨h.row.1,?_⟩
  rcases h.row.2 with h2 | ⟨g,cap,cur,hv,hbg,hg,rest⟩
  ·exact .inl h2
  ·refine .inr ⟨g,cap,cur,hv,hbg,Chg.at hc hg (fun e=>e.2 ⟨_,hg,by omega,_,_,_,rfl,.inr rfl⟩),rest⟩
 box:=Chg.at hc h.box (fun e=>by have:=e.1;omega)
 kp:=h.kp.chg hc (fun b hb e=>by have:=hR b hb;have:=e.1;omega)
 j:=hJ _ _ _ h.j (steps_79 hc (by omega))
 marks:=h.marks.kp (fun _ hr ho _=>Chg.at hc ho (fun e=>by have:=e.1;omega))
 mbl:=Nat.le_trans h.mbl (Chg.size hc)
 fromW:=h.fromW
theorem Core.up {mb':Nat} (h:Core n0 R J W pre st rv mb ds A) (h1:mb≤mb') (h2:mb'≤A.heap.size):Core n0 R J W pre st rv mb' ds A:={ h with marks:=h.marks.le h1,mbl:=h2 }
theorem Core.push {rv':Value} {q:T × Value} (h:Core n0 R J W pre st rv mb ds A) (hJ:Jst n0 J W) (hq:IsTree R W q.1 q.2) (hc:Chg (fun k=>k=W.heap.size+1∨rv.ownBlock=some k) A B)
 (hrow:B.ownsRow W.heap.size 24 3 rv' (st.length+1) (cellsOf (st++[q]))) (hbox:B.heap[W.heap.size+1]? = some (.cells #[rv'] 22 (0,0))) (hn0:n0≤W.heap.size) (hR:∀ b,R b→b < n0) :
 Core n0 R J W pre (st++[q]) rv' mb ds B∧Keeps E79 n0 (fun k=>k=W.heap.size+1) A B:=by
 have hne:=ownsRow_ne_type h.row h.box (by decide)
 have hbl:=ownsRow_block h.row
 have hob:∀ k o,A.heap[k]? = some o→(k=W.heap.size+1∨rv.ownBlock=some k)→W.heap.size≤k∧((k=W.heap.size+1∧o = .cells #[rv] 22 (0,0))∨∃ cs m,o = .cells cs 24 m):=by
  rintro k o ho (rfl | hk)
  ·rw [h.box] at ho;cases ho;exact ⟨by omega,.inl ⟨rfl,rfl⟩⟩
  ·obtain ⟨cs,m,hg⟩:=hbl k hk
   rw [hg] at ho;cases ho
   exact ⟨(hne k hk).1,.inr ⟨cs,m,rfl⟩⟩
 refine ⟨⟨fun x hx=>?_,by rw [List.length_append];exact hrow,hbox,fun b o hb ho=>?_,?_,?_,Nat.le_trans h.mbl hc.size,h.fromW⟩,⟨hc.size,fun k o ho hv hs=>hc.at ho ?_⟩⟩
 ·rcases List.mem_append.1 hx with hx | hx
  ·exact h.trees x hx
  ·obtain rfl:x=q:=by simpa using hx
   exact hq
 ·have h1:=h.kp b o hb ho
  refine hc.at h1 (fun e=>?_)
  have:=(hob b o h1 e).1
  have:=hR b hb
  omega
 ·refine hJ _ _ _ h.j (Chg.mono hc (fun i hi e=>?_))
  obtain ⟨o,ho⟩:∃ o,A.heap[i]? = some o:=⟨_,Array.getElem?_eq_getElem hi⟩
  obtain ⟨h1,h2⟩:=hob i o ho e
  refine ⟨h1,?_⟩
  rintro ⟨o',ho',_,cs,t,m,e1,e2⟩
  rw [ho] at ho'
  cases ho'
  rcases h2 with ⟨_,h2⟩ | ⟨cs',m',h2⟩
  ·rw [e1] at h2;cases h2;cases e2
  ·rw [e1] at h2;cases h2;cases e2
 ·refine h.marks.kp (fun r _ ho _=>hc.at ho (fun e=>?_))
  rcases (hob r _ ho e).2 with ⟨_,h2⟩ | ⟨cs',m',h2⟩
  ·cases h2
  ·cases h2
 ·intro e
  obtain ⟨h1,h2⟩:=hob k o ho e
  rcases h2 with ⟨h2,_⟩ | ⟨cs',m',h2⟩
  ·exact hv h2
  ·exact hs ⟨by omega,cs',24,m',h2,.inr rfl⟩
end
theorem zip2 (t:Array Value) (p q:Nat) (x y:Value):((#[p,q]:Array Nat).zip #[x,y]).foldl (fun t (p,v)=>t.setIfInBounds p v) t=(t.setIfInBounds p x).setIfInBounds q y:=by simp [Array.zip]
theorem zip1 (t:Array Value) (p:Nat) (x:Value):((#[p]:Array Nat).zip #[x]).foldl (fun t (p,v)=>t.setIfInBounds p v) t=t.setIfInBounds p x:=by simp [Array.zip]
theorem ownsRow_cap {w:World} {B:Nat} {e:TypeId} {z g n cap:Nat} {xs:List Value} (h:w.ownsRow B e z (.slice (some ⟨g,0,none⟩) n cap) n xs):n≤cap:=by
 rcases h.2 with ⟨h2,_⟩ | ⟨g',cap',cur,h2,hb,hg,hnc,hcm,hcs,ht⟩
 ·cases h2
 ·cases h2;exact hnc
theorem kidV_kp {R:Nat→Prop} {w W:World} (h:Kp R w W) {ao:Option Addr} {kids:List T} (hk:IsKids R w ao 0 kids) {j:Nat} {t:T} (ht:kids[j]? = some t):kidV W ao j=kidV w ao j:=by
 obtain ⟨b,o,ak,cap,rfl,hb,q0,q1,q2,e,_⟩:=kidV_eq hk ht
 rw [e]
 simp only [kidV,h.cell hb q0,h.cell hb q1,h.cell hb q2,Option.getD_some]
theorem IsKids.kp {R:Nat→Prop} {w W:World} (h:Kp R w W) {ao:Option Addr} {i:Nat} {l:List T} (hk:IsKids R w ao i l):IsKids R W ao i l :=
 IsKids.mono (fun _a _v hb hc=>h.cell hb hc) (fun _ e=>e) l ao i hk
end Go.Proofs.YtkgfdgfhpdhhaaaGreat
