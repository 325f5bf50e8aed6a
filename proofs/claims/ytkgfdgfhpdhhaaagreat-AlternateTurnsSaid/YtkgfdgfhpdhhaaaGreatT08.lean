/- Parts of the walks and of the plain theory, the first: How many parts a formula has. Conditions: as each theorem states. A region that draws its order, within a round of a range over a function. Conditions: as the theorems state. -/
import Derived.Test.YtkgfdgfhpdhhaaaGreatT07
import Derived.Lib.QuietBelow
import Derived.Test.YtkgfdgfhpdhhaaaGreatT02
import Derived.Test.YtkgfdgfhpdhhaaaGreatT06
import Derived.Deep.LoopGhost
namespace Go.Proofs.YtkgfdgfhpdhhaaaGreat
set_option maxRecDepth 100000
set_option maxHeartbeats 2000000
open Go.ChangeShapes Go.WideShapes Go.RowKit Go.Shelf
attribute [local go_sem] Oper.semAt_some
theorem leaves_one {F:Fence} {n:Nat} {P:Program} {fn:Func} {tm:Array Value} {R:Ending→World→Prop} {D:Nat} {W:World} (hD:W.heap[D]? = some (.deferred (some [])))
 (h:∀ W',Chg (At1 D) W W'→LeavesIn F n P fn tm R [] .returning W'):LeavesInM F n P fn tm R [{ target:= .collected D,args:=#[] }] .returning W :=
 ⟨by simp,.inl ⟨D,_,rfl,run_takeDeferred hD,h _ ⟨rfl,rfl,rfl,by simp,fun k _ hk=>World.putObj_heap_other hk⟩⟩⟩
theorem IsTree.agg {R:Nat→Prop} {w:World} {t:T} {v:Value} (h:IsTree R w t v):∃ a b c,v = .agg #[a,b,c]:=by
 obtain ⟨ao,cap,rfl,_⟩:=h.parts
 exact ⟨_,_,_,rfl⟩
theorem parts_of {n:Nat} (hn:3≤n) {R V0:Nat→Prop} {t:T} {v a b c:Value} (hv:v = .agg #[a,b,c]) {w W:World} (ht:IsTree R w t v) (hN:sizeT t≤1000000) (hR:∀ b,R b→b < w.heap.size)
 (hW:Chg Nob w W) {B:Nat} (hB:W.heap.size=B) (hV:∀ k,V0 k→w.heap.size≤k∧k < B) :
 Iter E9 w.heap.size n 133 #[.pointer (some ⟨B,0,none⟩)] (fun (x:T × Value)=>#[x.2]) V0 (preT (W.alloc (.cells #[a,b,c] 24)) t v) (W.alloc (.cells #[a,b,c] 24)):=by
 subst hB
 exact parts_iter w.heap.size n hn R V0 W.heap.size t v a b c hv _ (heap_alloc_new W _) (ht.nob (hW.alloc _)) hN (fun b hb=>⟨fun e=>by have:=hV b e;have:=hR b hb;omega,hR b hb⟩) (fun e=>by have:=hV _ e;omega)
  (fun k hk=>by have:=hV k hk;rw [World.size_alloc];omega) hW.size
theorem pre_length {w:World} {t:T} {v:Value}:(preT w t v).length=sizeT t:=by
 have:=congrArg List.length (preT_all w t v)
 rwa [List.length_map,allT_length] at this
theorem chg_steps {E:Nat→Prop} {n0 m:Nat} {w A B:World} (h:Chg Nob w A) (hs:Steps E n0 m A B) (hm:w.heap.size≤m):Chg Nob w B :=
 Chg.trans h hs (fun i hi e=>by have:=e.1;omega)
theorem size_any (R:Nat→Prop) (t:T) (v:Value) (w:World) (ht:IsTree R w t v) (hN:sizeT t≤1000000) (hR:∀ b,R b→b < w.heap.size) :
 Calls Tryz.prog 47 #[v] w fun e w'=>e = .returned (.int .i64 (min (sizeT t) 20001:Nat))∧Chg Nob w w':=by
 obtain ⟨a,b,c,hv⟩:=ht.agg
 have Ht:=Lib.hid ht
 clear ht
 subst hv
 refine (callsIn_wide (n:=5)).1 (callsIn_of_wp_marks Tryz.func47 rfl trivial ?_ rfl)
 simp only [Tryz.ntmps47,List.size_toArray,List.length_cons,List.length_nil,Nat.reduceAdd,Nat.reduceSub,Array.replicate_succ,Array.replicate_zero,List.push_toArray,List.append_toArray,List.nil_append,List.cons_append]
 gi_wp2
 refine ⟨trivial,(callsIn_wide.2 (parts_any (.agg #[a,b,c]) a b c rfl _)).mono ?_⟩
 rintro e w1 ⟨rfl,rfl⟩
 gi_wp2
 have hw2:Chg Nob w ((w.alloc (.cells #[a,b,c] 24)).alloc (.cells #[.int .i64 0] 3)):=((Chg.refl _ _).alloc _).alloc _
 have hs2:((w.alloc (.cells #[a,b,c] 24)).alloc (.cells #[.int .i64 0] 3)).heap.size=w.heap.size+1+1:=by simp
 have hit:=parts_of (n:=4) (by omega) (V0:=fun k=>k=w.heap.size+1) (rfl:Value.agg #[a,b,c]=_) Ht.out hN hR hw2 hs2 (by rintro k rfl;omega)
 have hcnt:=heap_alloc_new (w.alloc (.cells #[a,b,c] 24)) (.cells #[.int .i64 0] 3)
 rw [World.size_alloc] at hcnt
 have hcnt3:=((Chg.refl Nob _).alloc (.cells #[a,b,c] 24)).at hcnt (fun e=>e)
 have hxl:(preT (((w.alloc (.cells #[a,b,c] 24)).alloc (.cells #[.int .i64 0] 3)).alloc (.cells #[a,b,c] 24)) t (.agg #[a,b,c])).length=sizeT t:=pre_length
 have hw3:Chg Nob w (((w.alloc (.cells #[a,b,c] 24)).alloc (.cells #[.int .i64 0] 3)).alloc (.cells #[a,b,c] 24)):=hw2.alloc _
 have hs3:(((w.alloc (.cells #[a,b,c] 24)).alloc (.cells #[.int .i64 0] 3)).alloc (.cells #[a,b,c] 24)).heap.size=w.heap.size+3:=by simp
 clear hcnt
 generalize (((w.alloc (.cells #[a,b,c] 24)).alloc (.cells #[.int .i64 0] 3)).alloc (.cells #[a,b,c] 24))=W3 at *
 refine range_iter (E:=E9) (n0:=w.heap.size) (gf:=133) (by omega) rfl (enters_of Tryz.func133 (by kernel_rfl) rfl) hit (by rintro k rfl;omega) (fun _=>rfl)
  (fun pre W=>W.heap[w.heap.size+1]? = some (.cells #[.int .i64 pre.length] 3 (0,0))∧pre.length≤20000∧Chg Nob w W)
  (fun c pre W=>c = .exit 0∧W.heap[w.heap.size+1]? = some (.cells #[.int .i64 20001] 3 (0,0))∧pre.length=20001∧Chg Nob w W) ?_ ?_ ⟨hcnt3,Nat.zero_le _,hw3⟩ ?_ ?_ ?_
 ·rintro pre A B ⟨h1,h2,h3⟩ hs
  exact ⟨Chg.at hs h1 (fun e=>by have:=e.1;omega),h2,chg_steps h3 hs (by omega)⟩
 ·rintro c pre A B ⟨h0,h1,h2,h3⟩ hs
  exact ⟨h0,Chg.at hs h1 (fun e=>by have:=e.1;omega),h2,chg_steps h3 hs (by omega)⟩
 ·rintro l pre x W ⟨h1,h2,h3⟩ hpre hsz
  simp only [zip1,List.setIfInBounds_toArray,List.set_cons_succ,List.set_cons_zero]
  gi_wp2
  refine ⟨Keeps.refl _ _ _ _,fun w₂ hc2 hs2=>?_⟩
  have hcell:=Chg.at hs2 h1 (fun e=>by have:=e.1;omega)
  have k0:=cell_row hcell 0 (v:= .int .i64 pre.length) rfl
  have k1:w₂.frozen? ⟨w.heap.size+1,0,none⟩=false:=by simp [World.frozen?,hcell]
  have hw4:=chg_steps h3 hs2 (by omega)
  have hset:Chg (fun k=>k=w.heap.size+1) w₂ (w₂.setCell ⟨w.heap.size+1,0,none⟩ (.int .i64 ((pre++[x]).length:Int))):=(Chg.refl (fun k=>k=w.heap.size+1) w₂).setCell (p:=⟨w.heap.size+1,0,none⟩) (fun _=>rfl) _
  have hset2:Chg Nob w (w₂.setCell ⟨w.heap.size+1,0,none⟩ (.int .i64 ((pre++[x]).length:Int))):=hw4.trans hset (fun i hi e=>by omega)
  have hbl:=block_one_set (u:= .int .i64 ((pre++[x]).length:Int)) hcell
  have hcl:=cell_row hbl 0 (v:=_) rfl
  have el:(((pre++[x]).length:Nat):Int)=(pre.length:Int)+1:=by rw [List.length_append];simp
  have ew:wrap64 ((pre.length:Int)+1)=(pre.length:Int)+1:=by unfold wrap64;omega
  rw [el] at hset hset2 hbl hcl
  have Hbl:=Lib.hid hbl
  have Hset:=Lib.hid hset
  have Hset2:=Lib.hid hset2
  have Hel:=Lib.hid el
  clear hbl hset hset2 el
  rcases Nat.lt_or_ge pre.length 20000 with hlt | hge
  ·have h2':¬ (20000:Int) < (pre.length:Int)+1:=by omega
   gi_wp2
   exact ⟨Keeps.of_chg Hset.out,by rw [Hel.out];exact Hbl.out,by rw [List.length_append];simp;omega,Hset2.out⟩
  ·have h2':(20000:Int) < (pre.length:Int)+1:=by omega
   have e9:pre.length=20000:=by omega
   gi_wp2
   have j1:=Hset.out
   have j2:=Hset2.out
   have j3:=Hbl.out
   rw [e9] at j1 j2 j3
   exact ⟨Keeps.of_chg j1,rfl,j3,by rw [List.length_append];simp;omega,j2⟩
 ·rintro W ⟨h1,h2,h3⟩ hd
  have k0:=cell_row h1 0 (v:=_) rfl
  have hmin:min (sizeT t) 20001=sizeT t:=by rw [hxl] at h2;omega
  rw [hxl] at k0
  have Hm:=Lib.hid hmin
  have Hxl:=Lib.hid hxl
  clear hmin hxl
  gi_wp2
  refine leaves_one hd (fun W' hc'=>⟨_,results_tmp rfl _ _ _,?_,h3.trans hc' (fun i hi e=>by have e:i=_:=e;omega)⟩)
  rw [Hm.out];rfl
 ·rintro c pre W hpre ⟨rfl,h1,h2,h3⟩ hd
  have k0:=cell_row h1 0 (v:=_) rfl
  have hmin:min (sizeT t) 20001=20001:=by have:=hpre.length_le;rw [hxl] at this;omega
  have Hm:=Lib.hid hmin
  clear hmin
  gi_wp2
  refine leaves_one hd (fun W' hc'=>⟨_,results_tmp rfl _ _ _,?_,h3.trans hc' (fun i hi e=>by have e:i=_:=e;omega)⟩)
  rw [Hm.out];rfl
open Go.ChangeShapes Go.WideShapes Go.RowKit Go.Shelf Go.Sort
theorem rowsIn_round {l n:Nat} {P:Program} {row:String} {args:Array Value} {w:World} {R:Value→World→Prop} (h:Rows P row args w R):RowsIn (Fence.wide.inRound l) n P row args w R:=by
 intro c cs _
 obtain ⟨v,w',r,s⟩:=h c cs
 exact ⟨v,w',r,stepsIn_wide.2 s⟩
theorem op_round {l n:Nat} {P:Program} {o:Oper} {a:Act} {w:World} {K:Act→World→Prop} {Q:Exit→Act→World→Prop} (hd:∀ c,o.op ≠ .defer c) (h:o.wp P a w K Q):o.wpIn (Fence.wide.inRound l) n P a w K Q:=by
 refine ⟨fun _ _=>trivial,?_⟩
 rw [Oper.semAt_eq _ _ _ hd]
 unfold Oper.wp at h
 generalize (execOp a.eval o).run P w=r at *
 cases r with
 | ok x w' =>
   cases x with
   | value v=>exact h
   | skip=>exact h
   | defer d=>exact h
   | enter f args=>exact ⟨fun e=>(by cases e),CallsIn.inRound l (callsIn_wide.2 h)⟩
   | row row args=>exact ⟨fun e=>(by cases e),rowsIn_round h⟩
   | _=>exact h.elim
 | halt x w'=>cases x <;> exact h
def noDefer (o:Oper):Bool:=match o.op with | .defer _=>false | _=>true
theorem noDefer_of {o:Oper} (h:noDefer o=true):∀ c,o.op ≠ .defer c:=by
 intro c e
 unfold noDefer at h
 rw [e] at h
 cases h
theorem opAt_round {l n:Nat} {P:Program} {ops:Array Oper} {C:World→Prop} {Q:Exit→Act→World→Prop} {i:Nat} {K:Act→Prop} {K':Act→World→Prop} {a:Act} {w:World} (hd:∀ (i:Nat) (o:Oper),ops[i]? = some o→noDefer o=true)
 (hC:C w) (hk:∀ a w',C w'→K a→K' a w') (h:qOp P ops C i K a):wpOpIn (Fence.wide.inRound l) n P ops Q i K' a w:=by
 unfold qOp at h
 unfold wpOpIn
 cases ho:ops[i]? with
 | none=>rw [ho] at h;exact hk _ _ hC h
 | some o =>
   rw [ho] at h
   dsimp only at h ⊢
   split
   ·rename_i hw;rw [if_pos hw] at h;exact op_round (noDefer_of (hd i o ho)) (Oper.wp_of_quiet hC hk h)
   ·rename_i hw;rw [if_neg hw] at h;exact ⟨fun _ _=>trivial,hk _ _ hC h⟩
theorem any_round {l n:Nat} {P:Program} {md:Region.Mode} {ops:Array Oper} {C:World→Prop} {Q:Act→Prop} {Q':Exit→Act→World→Prop} (hd:∀ (i:Nat) (o:Oper),ops[i]? = some o→noDefer o=true) (hQ:∀ a w,C w→Q a→Q' .normal a w) :
 ∀ (fuel:Nat) (listed:Array Bool) (a:Act) (w:World),C w→wpAnyQ P md ops C Q fuel listed a→wpAnyIn (Fence.wide.inRound l) n P md ops Q' fuel listed a w
 | 0,_,_,_,hw,h=>⟨h.1,hQ _ _ hw h.2⟩
 | fuel+1,_,_,_,hw,h=>⟨fun h0=>hQ _ _ hw (h.1 h0),fun i hi=>opAt_round hd hw (fun a' w' hw' h'=>any_round hd hQ fuel _ a' w' hw' h') (h.2 i hi)⟩
theorem quiet_below_round {l n id:Nat} {P:Program} {Q:Exit→Act→World→Prop} {a:Act} {w:World} {ops:List Oper} (hm:P.follows .mixedOrders=true) (hd:ops.all noDefer=true) (hB:Region.lexB .any ops.toArray=true)
 (h:wpQuiet P ops.toArray (fun w'=>∃ p:Regrown,w'=grow (redrawn w p.d) p.os) (fun a'=>∀ w',(∃ p:Regrown,w'=grow (redrawn w p.d) p.os)→Q .normal a' w') ops a):(Code.region id ops.toArray true).wpIn (Fence.wide.inRound l) n P Q a w:=by
 simp only [Region.lexB,Bool.and_eq_true] at hB
 have hd':∀ (i:Nat) (o:Oper),ops.toArray[i]? = some o→noDefer o=true:=fun i o ho=>List.all_eq_true.1 hd o (by rw [List.getElem?_toArray] at ho;exact List.mem_of_getElem? ho)
 refine wpIn_region_any hm (any_round (C:=fun w'=>∃ p:Regrown,w'=grow (redrawn w p.d) p.os) (Q:=fun a'=>∀ w',(∃ p:Regrown,w'=grow (redrawn w p.d) p.os)→Q .normal a' w') hd' (fun _ w' hw' h=>h w' hw') _ _ _ _ ⟨⟨w.drawn+1,#[]⟩,by rw [grow_empty];rfl⟩ ?_)
 have:=wpAnyQ_lex (C:=fun w'=>∃ p:Regrown,w'=grow (redrawn w p.d) p.os) (md:= .any) hB.1 ops 0 (Array.replicate ops.toArray.size false) a (by simp) (by simpa using hB.2) h
 simpa using this
theorem regrown_chg {P:Program} {f:FuncId} {args:Array Value} {w:World} {d:Nat} {os:Array Obj} {v:Value}
 (h:Calls P f args (grow (redrawn w d) os) fun e w'=>e = .returned v∧Chg Nob (grow (redrawn w d) os) w'):Calls P f args (grow (redrawn w d) os) fun e w''=>e = .returned v∧∃ p:Regrown,w''=grow (redrawn w p.d) p.os :=
 Calls.regrown_of (h.mono fun _ _ ⟨he,hc⟩=>⟨he,hc.toBelow⟩)
theorem regrown_same {P:Program} {f:FuncId} {args:Array Value} {w:World} {d:Nat} {os:Array Obj} {v:Value}
 (h:Calls P f args (grow (redrawn w d) os) (Rets v (grow (redrawn w d) os))):Calls P f args (grow (redrawn w d) os) fun e w''=>e = .returned v∧∃ p:Regrown,w''=grow (redrawn w p.d) p.os :=
 regrown_chg (h.mono fun _ _ ⟨he,hc⟩=>⟨he,by rw [← hc];exact Chg.refl _ _⟩)
end Go.Proofs.YtkgfdgfhpdhhaaaGreat
namespace Go.Proofs.YtkgfdgfhpdhhaaaGreat
open Go.ChangeShapes Go.WideShapes Go.RowKit
set_option maxRecDepth 100000
set_option maxHeartbeats 4000000
theorem Tryz.info171:(Tryz.prog.info? 171).map (fun i=>(i.zero,i.size,i.bytes))=some (some (.agg #[.int .i64 0,.string ⟨#[]⟩,.slice none 0 0,.int .i64 0]),4,56):=by kernel_rfl
theorem info125_parts:∃ i,Tryz.prog.info? 171=some i∧i.zero=some (.agg #[.int .i64 0,.string ⟨#[]⟩,.slice none 0 0,.int .i64 0])∧i.size=4∧i.bytes=56:=by
 have h:=Tryz.info171
 cases hi:Tryz.prog.info? 171 with
 | none=>rw [hi] at h;simp at h
 | some i=>rw [hi] at h;simp at h;exact ⟨i,rfl,h.1,h.2.1,h.2.2⟩
theorem append125 {B:Nat} {w:World} {v:Value} {n:Nat} {xs:List Value} {g:Nat} {k d:Int} {s:ByteArray} {ao:Option Addr} {l c:Nat} (h:w.ownsRow B 171 4 v n xs) (hB:B≤w.heap.size) (hn:n≤100000000) (hg:w.heap[g]? = some (.cells #[.int .i64 k,.string s,.slice ao l c,.int .i64 d] 171 (0,0))) :
 ∃ g' cap w',(Builtin.append_ #[172,172] 172 #[v,.slice (some ⟨g,0,none⟩) 1 1]).run Tryz.prog w = .ok (.slice (some ⟨g',0,none⟩) (n+1) cap) w'∧w'.ownsRow B 171 4 (.slice (some ⟨g',0,none⟩) (n+1) cap) (n+1) (xs++[.int .i64 k,.string s,.slice ao l c,.int .i64 d])∧w.grownBy w' v.ownBlock∧(v.ownBlock=some g'∨g'=w.heap.size)∧g' < w'.heap.size:=by
 obtain ⟨i,hi,hz,hs,hb⟩:=info125_parts
 exact run_append_lies (P:=Tryz.prog) w 172 172 B 171 i _ 4 56 Tryz.underlying172 hi hz hs hb rfl (by decide) v n _ h ⟨g,0,none⟩ 1 1 [.int .i64 k,.string s,.slice ao l c,.int .i64 d] rfl
  (fun j u hj=>by rw [Go.WideShapes.add_plain,Nat.zero_add];exact cell_row hg j (by simpa using hj)) (by intro u hu;simp at hu;rcases hu with rfl | rfl | rfl | rfl <;> rfl) (by decide) (by unfold maxLen;omega) (by omega) hB _ rfl
structure El where
 t:T
 ao:Option Addr
 cap:Nat
 deep:Nat
def El.v (x:El):Value:= .agg #[.int .i64 x.t.kind,.string ⟨x.t.name.toArray⟩,.slice x.ao x.t.kids.length x.cap]
def El.cells (x:El):List Value:=[.int .i64 x.t.kind,.string ⟨x.t.name.toArray⟩,.slice x.ao x.t.kids.length x.cap,.int .i64 (x.deep:Int)]
def elCells (l:List El):List Value:=l.flatMap El.cells
theorem elCells_length:∀ l:List El,(elCells l).length=l.length * 4
 | []=>rfl
 | x::l=>by
   have:=elCells_length l
   unfold elCells at this ⊢
   rw [List.flatMap_cons,List.length_append,this,List.length_cons]
   show 4+l.length * 4=_
   omega
theorem elCells_snoc (l:List El) (x:El):elCells (l++[x])=elCells l++x.cells:=by
 unfold elCells
 rw [List.flatMap_append];rfl
theorem elCells_at (l:List El) (x:El) {j:Nat} {u:Value} (h:x.cells[j]? = some u):(elCells (l++[x]))[l.length * 4+j]? = some u:=by
 rw [elCells_snoc,List.getElem?_append_right (by rw [elCells_length];omega),elCells_length,Nat.add_sub_cancel_left]
 exact h
theorem elCells_cut (l:List El) (x:El):(elCells (l++[x])).take (l.length * 4)=elCells l:=by
 rw [elCells_snoc,List.take_append_of_le_length (by rw [elCells_length];omega),List.take_of_length_le (by rw [elCells_length];omega)]
def deepL:List El→Nat
 | []=>0
 | x::l=>max (x.deep - 1+depthT x.t) (deepL l)
theorem deepL_append:∀ l m:List El,deepL (l++m)=max (deepL l) (deepL m)
 | [],m=>by rw [List.nil_append,deepL];omega
 | x::l,m=>by rw [List.cons_append,deepL,deepL,deepL_append l m];omega
def massL:List El→Nat
 | []=>0
 | x::l=>sizeT x.t+massL l
theorem massL_append:∀ l m:List El,massL (l++m)=massL l+massL m
 | [],m=>by rw [List.nil_append,massL];omega
 | x::l,m=>by rw [List.cons_append,massL,massL,massL_append l m];omega
theorem massL_le:∀ l:List El,l.length≤massL l
 | []=>Nat.le_refl _
 | x::l=>by have:=massL_le l;have:=sizeT_pos x.t;rw [List.length_cons,massL];omega
theorem sizeL_len:∀ l:List T,l.length≤sizeL l
 | []=>Nat.le_refl _
 | t::l=>by have:=sizeL_len l;have:=sizeT_pos t;rw [List.length_cons,sizeL];omega
theorem ownsRow_lt_b {w:World} {B:Nat} {e:TypeId} {z g n cap:Nat} {xs:List Value} (h:w.ownsRow B e z (.slice (some ⟨g,0,none⟩) n cap) n xs):g < w.heap.size:=(h.lt g rfl).2
theorem deepL_kids:∀ (ks:List El) (d:Nat),(∀ e∈ks,e.deep=d+1)→d≤d+depthL (ks.map (·.t))∧max d (deepL ks)=d+depthL (ks.map (·.t))
 | [],d,_=>by rw [List.map_nil,depthL,deepL];omega
 | e::ks,d,h=>by
   have ih:=(deepL_kids ks d (fun e he=>h e (List.mem_cons_of_mem _ he))).2
   have he:=h e List.mem_cons_self
   rw [List.map_cons,depthL,deepL,he]
   omega
theorem massL_kids:∀ (ks:List El),massL ks=sizeL (ks.map (·.t))
 | []=>by rw [List.map_nil,sizeL,massL]
 | e::ks=>by rw [List.map_cons,sizeL,massL,massL_kids ks]
structure DpOk (R:Nat→Prop) (w:World) (t0:T) (m:Nat) (st:List El) (v:Value) (wr:World):Prop where
 c:Chg Nob w wr
 row:wr.ownsRow w.heap.size 171 4 v st.length (elCells st)
 trees:∀ x∈st,IsTree R w x.t x.v∧1≤x.deep∧x.deep+massL st≤sizeT t0+1
 max:depthT t0=max m (deepL st)
 mm:m≤sizeT t0
structure DpIn (R:Nat→Prop) (w:World) (st0 ks:List El) (x:El) (xb:Nat) (v:Value) (wr:World):Prop where
 c:Chg Nob w wr
 row:wr.ownsRow w.heap.size 171 4 v (st0.length+ks.length) (elCells (st0++ks))
 xblk:wr.heap[xb]? = some (.cells x.cells.toArray 171 (0,0))
 xl:w.heap.size≤xb
 ne:∀ k,v.ownBlock=some k→k≠xb
 pre:ks.map (·.t)=x.t.kids.take ks.length
 trees:∀ e∈ks,IsTree R w e.t e.v∧e.deep=x.deep+1
 kl:ks.length≤x.t.kids.length
theorem DpIn.push {R:Nat→Prop} {w:World} {st0 ks:List El} {x:El} {xb:Nat} {v:Value} {wr wA w6:World} {u:T} {ak:Option Addr} {capk g' cap':Nat} (h:DpIn R w st0 ks x xb v wr) (hu:x.t.kids[ks.length]? = some u)
 (htree:IsTree R w u (.agg #[.int .i64 u.kind,.string ⟨u.name.toArray⟩,.slice ak u.kids.length capk])) (hA:Chg Nob wr wA)
 (hrow6:w6.ownsRow w.heap.size 171 4 (.slice (some ⟨g',0,none⟩) (st0.length+ks.length+1) cap') (st0.length+ks.length+1) (elCells (st0++ks)++[.int .i64 u.kind,.string ⟨u.name.toArray⟩,.slice ak u.kids.length capk,.int .i64 ((x.deep+1:Nat):Int)])) (hgr:wA.grownBy w6 v.ownBlock)
 (hg:v.ownBlock=some g'∨g'=wA.heap.size):DpIn R w st0 (ks++[⟨u,ak,capk,x.deep+1⟩]) x xb (.slice (some ⟨g',0,none⟩) (st0.length+ks.length+1) cap') w6:=by
 have hxb:=hA.at h.xblk (fun e=>e)
 have hlt:=(Array.getElem?_eq_some_iff.1 hxb).1
 refine ⟨grown_chg (h.c.trans1 hA) (ownsRow_chg h.row hA (fun _ _ e=>e)) (Nat.le_refl _) hgr,?_,?_,h.xl,?_,?_,?_,?_⟩
 ·rw [List.length_append,← List.append_assoc,elCells_snoc]
  exact hrow6
 ·exact (Chg.grown (S:=fun k=>v.ownBlock=some k) (Chg.refl _ wA) hgr (fun k hk _=>hk)).at hxb (fun e=>h.ne _ e rfl)
 ·intro k hk e
  have hk2:g'=k:=by simpa [Value.ownBlock] using hk
  rcases hg with hg | hg
  ·exact h.ne _ hg (hk2.trans e)
  ·omega
 ·rw [List.map_append,List.length_append,h.pre,List.map_cons,List.map_nil,List.length_cons,List.length_nil,Nat.zero_add,List.take_add_one,hu]
  rfl
 ·intro e he
  rcases List.mem_append.1 he with he | he
  ·exact h.trees e he
  ·obtain rfl:e=⟨u,ak,capk,x.deep+1⟩:=by simpa using he
   exact ⟨htree,rfl⟩
 ·have:=(List.getElem?_eq_some_iff.1 hu).1
  rw [List.length_append]
  exact this
theorem DpIn.done {R:Nat→Prop} {w:World} {t0:T} {m:Nat} {st0 ks:List El} {x:El} {xb:Nat} {v v0:Value} {wr wr0:World} (h:DpIn R w st0 ks x xb v wr) (h0:DpOk R w t0 m (st0++[x]) v0 wr0) (hl:ks.length=x.t.kids.length) :
 DpOk R w t0 (max m x.deep) (st0++ks) v wr∧massL (st0++ks) < massL (st0++[x]):=by
 obtain ⟨hx1,hx2,hx3⟩:=h0.trees x (by simp)
 have hmax:=h0.max
 have hp:=h.pre
 rw [hl,List.take_length] at hp
 have hd:=deepL_kids ks x.deep (fun e he=>(h.trees e he).2)
 have hm:=massL_kids ks
 rw [hp] at hd hm
 have hdx:=depthT_eq x.t
 have hsx:=sizeT_eq x.t
 rw [deepL_append] at hmax
 simp only [deepL] at hmax
 have hlt:massL (st0++ks) < massL (st0++[x]):=by
  rw [massL_append,massL_append]
  simp only [massL]
  omega
 refine ⟨⟨h.c,by rw [List.length_append];exact h.row,fun e he=>?_,by rw [deepL_append];omega,?_⟩,hlt⟩
 ·rcases List.mem_append.1 he with he | he
  ·obtain ⟨e1,e2,e3⟩:=h0.trees e (List.mem_append_left _ he)
   exact ⟨e1,e2,by omega⟩
  ·obtain ⟨e1,e2⟩:=h.trees e he
   exact ⟨e1,by omega,by omega⟩
 ·have h1:=h0.mm
  have h2:=massL_le (st0++[x])
  rw [List.length_append,List.length_cons] at h2
  omega
theorem pdepth_any (R:Nat→Prop) (t:T) (v:Value) (w:World) (ht:IsTree R w t v) (hN:sizeT t≤1000000) :
 Calls Tryz.prog 72 #[v] w fun e w'=>e = .returned (.int .i64 (depthT t))∧Chg Nob w w':=by
 obtain ⟨ao,cap,rfl,hlen,hk⟩:=ht.parts
 have Ht:=Lib.hid ht
 clear ht hk
 go_enter Tryz.func72,Tryz.ntmps72
 go_wp2_with fail
 have h0:Hid (∃ W,W=(w.alloc (.cells #[.int .i64 t.kind,.string ⟨t.name.toArray⟩,.slice ao t.kids.length cap] 24)).alloc (.cells #[.int .i64 t.kind,.string ⟨t.name.toArray⟩,.slice ao t.kids.length cap,.int .i64 1] 171) ∧
  DpOk R w t 0 [⟨t,ao,cap,1⟩] (.slice (some ⟨w.heap.size+1,0,none⟩) 1 1) W):=by
  refine ⟨_,rfl,((Chg.refl _ _).alloc _).alloc _,⟨rfl,.inr ⟨w.heap.size+1,1,#[.int .i64 t.kind,.string ⟨t.name.toArray⟩,.slice ao t.kids.length cap,.int .i64 1],rfl,by omega,?_,Nat.le_refl _,by decide,rfl,rfl⟩⟩,?_,?_,by omega⟩
  ·have:=heap_alloc_new (w.alloc (.cells #[.int .i64 t.kind,.string ⟨t.name.toArray⟩,.slice ao t.kids.length cap] 24)) (.cells #[.int .i64 t.kind,.string ⟨t.name.toArray⟩,.slice ao t.kids.length cap,.int .i64 1] 171)
   rwa [World.size_alloc] at this
  ·intro x hx
   obtain rfl:x=⟨t,ao,cap,1⟩:=by simpa using hx
   exact ⟨Ht.out,Nat.le_refl _,by simp only [massL];omega⟩
  ·rw [deepL,deepL]
   show _=max 0 (max (1 - 1+depthT t) 0)
   omega
 obtain ⟨W,hW,hok⟩:=h0.out
 rw [← hW]
 have Hok:=Lib.hid hok
 clear hW h0 hok
 go_loopg [3,4] (sizeT t) (fun k s3 s4 wr=>∃ (m:Nat) (st:List El),s3 = .int .i64 m∧massL st≤k∧Hid (DpOk R w t m st s4 wr))
 case atStart=>exact ⟨0,_,rfl,by rw [massL,massL];exact Nat.le_refl _,Hok⟩
 case round =>
  clear Hok
  obtain ⟨m,st,rfl,hgk,HD⟩:=hrel
  obtain ⟨aor,capr,rfl⟩:=ownsRow_shape HD.out.row
  rcases List.eq_nil_or_concat st with rfl | ⟨st0,x,rfl⟩
  ·have hm:=HD.out.max
   rw [deepL] at hm
   have Hm:=Lib.hid hm
   clear hm
   simp only [List.length_nil]
   go_wp2
   go_ret
   exact ⟨by rw [Hm.out,Nat.max_zero];rfl,HD.out.c⟩
  ·rw [List.concat_eq_append] at HD hgk ⊢
   have hrow:=HD.out.row
   rw [List.length_append,List.length_cons,List.length_nil,Nat.zero_add] at hrow ⊢
   obtain ⟨N,hN0⟩:∃ N,N=st0.length:=⟨_,rfl⟩
   rw [← hN0] at hrow ⊢
   obtain ⟨g,capg,hsv,_⟩:=ownsRow_some hrow (by omega)
   cases hsv
   have q0:=ownsRow_at hrow (elCells_at st0 x (j:=0) rfl)
   have q1:=ownsRow_at hrow (elCells_at st0 x (j:=1) rfl)
   have q2:=ownsRow_at hrow (elCells_at st0 x (j:=2) rfl)
   have q3:=ownsRow_at hrow (elCells_at st0 x (j:=3) rfl)
   rw [← hN0] at q0 q1 q2 q3
   rw [Nat.add_zero] at q0
   have hcg:=ownsRow_cap hrow
   obtain ⟨hxt,hd1,hdm⟩:=HD.out.trees x (by simp)
   have hms:=massL_le (st0++[x])
   rw [List.length_append,List.length_cons,List.length_nil,Nat.zero_add] at hms
   have hNb:N≤1000000:=by omega
   have hdb:x.deep≤1000000:=by omega
   have hmm:=HD.out.mm
   have hn0:(0:Int) < (N:Int)+1:=by omega
   have hn1:(0:Int)≤(N:Int):=by omega
   have hn2:(N:Int) < (N:Int)+1:=by omega
   have hn3:(N:Int)≤(capr:Int):=by omega
   have hgw:=ownsRow_lt_b hrow
   obtain ⟨aok,capk,ev,hkl,hk⟩:=hxt.parts
   have hev:aok=x.ao∧capk=x.cap:=by unfold El.v at ev;simp at ev;exact ⟨ev.1.symm,ev.2.symm⟩
   obtain ⟨rfl,rfl⟩:=hev
   have Hk:=Lib.hid hk
   have HN0:=Lib.hid hN0
   have hIn:Hid (DpIn R w st0 [] x wr.heap.size (.slice (some ⟨g,0,none⟩) N capr) (wr.alloc (.cells #[.int .i64 x.t.kind,.string ⟨x.t.name.toArray⟩,.slice x.ao x.t.kids.length x.cap,.int .i64 (x.deep:Int)] 171))):=by
    have hcut:=ownsRow_cut hrow (m:=N) (by omega)
    rw [hN0,elCells_cut,← hN0] at hcut
    refine ⟨HD.out.c.alloc _,?_,heap_alloc_new wr _,HD.out.c.size,?_,rfl,(fun e he=>by cases he),Nat.zero_le _⟩
    ·rw [List.length_nil,Nat.add_zero,← hN0,List.append_nil]
     exact ownsRow_chg hcut ((Chg.refl Nob wr).alloc _) (fun _ _ e=>e)
    ·intro k hk2
     have:g=k:=by simpa [Value.ownBlock] using hk2
     omega
   have Hkb:Hid (x.t.kids.length≤1000000):=(show _≤_ by have h1:=massL_append st0 [x];simp only [massL] at h1;have h2:=sizeT_eq x.t;have h3:=sizeL_len x.t.kids;omega)
   clear hrow hxt hN0 hk ev
   by_cases hmd:m < x.deep
   ·have hmdi:(m:Int) < (x.deep:Int):=by omega
    go_wp2_with fail
    have HDone:Hid (∀ (ks:List El) (v':Value) (wr':World),DpIn R w st0 ks x wr.heap.size v' wr'→ks.length=x.t.kids.length→DpOk R w t x.deep (st0++ks) v' wr'∧massL (st0++ks) < massL (st0++[x])):=fun ks v' wr' h1 h2=>by
     have:=h1.done HD.out h2
     rwa [show max m x.deep=x.deep by omega] at this
    have hxl:(x.deep:Int)≤1000000:=by omega
    generalize wr.heap.size=xb at *
    clear HD
    obtain ⟨a0,ha0⟩:∃ a0,a0=x.ao:=⟨_,rfl⟩
    rw [← ha0] at Hk hIn ⊢
    have Ha0:=Lib.hid ha0
    clear ha0
    go_loopg [4,33] x.t.kids.length (fun k s4 s33 wr'=>∃ ks:List El,s33 = .int .i64 ks.length∧k+ks.length=x.t.kids.length∧Hid (DpIn R w st0 ks x xb s4 wr'))
    case atStart=>exact ⟨[],rfl,rfl,hIn⟩
    case round =>
     clear hIn q0 q1 q2 q3
     obtain ⟨ks,rfl,hgk2,HI⟩:=hrel
     obtain ⟨aor2,capr2,rfl⟩:=ownsRow_shape HI.out.row
     rcases Nat.lt_or_ge ks.length x.t.kids.length with hlt | hge
     ·obtain ⟨u,hu⟩:∃ u,x.t.kids[ks.length]? = some u:=⟨_,List.getElem?_eq_getElem hlt⟩
      obtain ⟨b,o,ak,capk,hao,hRb,p0,p1,p2,hl2,hk2,htree⟩:=Hk.out.kid hu
      have p0':=HI.out.c.cell' p0 (fun e=>e)
      have p1':=HI.out.c.cell' p1 (fun e=>e)
      have p2':=HI.out.c.cell' p2 (fun e=>e)
      have xd:=cell_row HI.out.xblk 3 (v:= .int .i64 (x.deep:Int)) rfl
      have xd2:=((Chg.refl Nob wr).alloc (.cells #[.int .i64 u.kind,.string ⟨u.name.toArray⟩,.slice ak u.kids.length capk] 24)).cell' xd (fun e=>e)
      have hxbl:xb < wr.heap.size:=(Array.getElem?_eq_some_iff.1 HI.out.xblk).1
      have hki:(ks.length:Int) < (x.t.kids.length:Int):=by omega
      have hk0:(0:Int)≤(ks.length:Int):=by omega
      have hA:Chg Nob wr ((wr.alloc (.cells #[.int .i64 u.kind,.string ⟨u.name.toArray⟩,.slice ak u.kids.length capk] 24)).alloc (.cells #[.int .i64 u.kind,.string ⟨u.name.toArray⟩,.slice ak u.kids.length capk,.int .i64 ((x.deep:Int)+1)] 171)):=((Chg.refl _ _).alloc _).alloc _
      have hnew:=heap_alloc_new (wr.alloc (.cells #[.int .i64 u.kind,.string ⟨u.name.toArray⟩,.slice ak u.kids.length capk] 24)) (.cells #[.int .i64 u.kind,.string ⟨u.name.toArray⟩,.slice ak u.kids.length capk,.int .i64 ((x.deep:Int)+1)] 171)
      rw [World.size_alloc] at hnew
      have hb9:st0.length+ks.length≤100000000:=by have:=HN0.out;have:=Hkb.out;omega
      obtain ⟨g',cap6,w6,hrun,hrow6,hgr,hg6,_⟩:=append125 (ownsRow_chg HI.out.row hA (fun _ _ e=>e)) (by have:=(HI.out.c.trans1 hA).size;exact this) hb9 hnew
      have HI2:=Lib.hid (HI.out.push hu htree hA hrow6 hgr hg6)
      have Hrun:=Lib.hid hrun
      have Hlen:Hid ((ks++[(⟨u,ak,capk,x.deep+1⟩:El)]).length=ks.length+1):=(show _=_ by simp)
      clear hrun hrow6 hgr hg6 hnew hA p0 p1 p2 hk2 htree hu
      subst hao
      go_wp2_with (refine wpList_append_known rfl _ _ 172 172 rfl _ _ rfl rfl _ w6 Hrun.out ?_)
      go_roundg (gk - 1)
      case measure=>omega
      case rel=>exact ⟨ks++[⟨u,ak,capk,x.deep+1⟩],by rw [Hlen.out];go_num,by rw [Hlen.out];omega,HI2⟩
     ·have hkl2:ks.length=x.t.kids.length:=by have:=HI.out.kl;omega
      have Hd:=Lib.hid (HDone.out ks _ _ HI.out hkl2)
      have hkle:¬ (ks.length:Int) < (x.t.kids.length:Int):=by omega
      have hml:=Hd.out.2
      have Hkl2:=Lib.hid hkl2
      clear hkl2
      go_wp2
      go_roundg (massL (st0++ks))
      case measure=>omega
      case rel=>exact ⟨_,_,rfl,Nat.le_refl _,Hd.out.1⟩
   ·have hmdi:¬ (m:Int) < (x.deep:Int):=by omega
    go_wp2_with fail
    have HDone:Hid (∀ (ks:List El) (v':Value) (wr':World),DpIn R w st0 ks x wr.heap.size v' wr'→ks.length=x.t.kids.length→DpOk R w t m (st0++ks) v' wr'∧massL (st0++ks) < massL (st0++[x])):=fun ks v' wr' h1 h2=>by
     have:=h1.done HD.out h2
     rwa [show max m x.deep=m by omega] at this
    have hxl:(x.deep:Int)≤1000000:=by omega
    generalize wr.heap.size=xb at *
    clear HD
    obtain ⟨a0,ha0⟩:∃ a0,a0=x.ao:=⟨_,rfl⟩
    rw [← ha0] at Hk hIn ⊢
    have Ha0:=Lib.hid ha0
    clear ha0
    go_loopg [4,33] x.t.kids.length (fun k s4 s33 wr'=>∃ ks:List El,s33 = .int .i64 ks.length∧k+ks.length=x.t.kids.length∧Hid (DpIn R w st0 ks x xb s4 wr'))
    case atStart=>exact ⟨[],rfl,rfl,hIn⟩
    case round =>
     clear hIn q0 q1 q2 q3
     obtain ⟨ks,rfl,hgk2,HI⟩:=hrel
     obtain ⟨aor2,capr2,rfl⟩:=ownsRow_shape HI.out.row
     rcases Nat.lt_or_ge ks.length x.t.kids.length with hlt | hge
     ·obtain ⟨u,hu⟩:∃ u,x.t.kids[ks.length]? = some u:=⟨_,List.getElem?_eq_getElem hlt⟩
      obtain ⟨b,o,ak,capk,hao,hRb,p0,p1,p2,hl2,hk2,htree⟩:=Hk.out.kid hu
      have p0':=HI.out.c.cell' p0 (fun e=>e)
      have p1':=HI.out.c.cell' p1 (fun e=>e)
      have p2':=HI.out.c.cell' p2 (fun e=>e)
      have xd:=cell_row HI.out.xblk 3 (v:= .int .i64 (x.deep:Int)) rfl
      have xd2:=((Chg.refl Nob wr).alloc (.cells #[.int .i64 u.kind,.string ⟨u.name.toArray⟩,.slice ak u.kids.length capk] 24)).cell' xd (fun e=>e)
      have hxbl:xb < wr.heap.size:=(Array.getElem?_eq_some_iff.1 HI.out.xblk).1
      have hki:(ks.length:Int) < (x.t.kids.length:Int):=by omega
      have hk0:(0:Int)≤(ks.length:Int):=by omega
      have hA:Chg Nob wr ((wr.alloc (.cells #[.int .i64 u.kind,.string ⟨u.name.toArray⟩,.slice ak u.kids.length capk] 24)).alloc (.cells #[.int .i64 u.kind,.string ⟨u.name.toArray⟩,.slice ak u.kids.length capk,.int .i64 ((x.deep:Int)+1)] 171)):=((Chg.refl _ _).alloc _).alloc _
      have hnew:=heap_alloc_new (wr.alloc (.cells #[.int .i64 u.kind,.string ⟨u.name.toArray⟩,.slice ak u.kids.length capk] 24)) (.cells #[.int .i64 u.kind,.string ⟨u.name.toArray⟩,.slice ak u.kids.length capk,.int .i64 ((x.deep:Int)+1)] 171)
      rw [World.size_alloc] at hnew
      have hb9:st0.length+ks.length≤100000000:=by have:=HN0.out;have:=Hkb.out;omega
      obtain ⟨g',cap6,w6,hrun,hrow6,hgr,hg6,_⟩:=append125 (ownsRow_chg HI.out.row hA (fun _ _ e=>e)) (by have:=(HI.out.c.trans1 hA).size;exact this) hb9 hnew
      have HI2:=Lib.hid (HI.out.push hu htree hA hrow6 hgr hg6)
      have Hrun:=Lib.hid hrun
      have Hlen:Hid ((ks++[(⟨u,ak,capk,x.deep+1⟩:El)]).length=ks.length+1):=(show _=_ by simp)
      clear hrun hrow6 hgr hg6 hnew hA p0 p1 p2 hk2 htree hu
      subst hao
      go_wp2_with (refine wpList_append_known rfl _ _ 172 172 rfl _ _ rfl rfl _ w6 Hrun.out ?_)
      go_roundg (gk - 1)
      case measure=>omega
      case rel=>exact ⟨ks++[⟨u,ak,capk,x.deep+1⟩],by rw [Hlen.out];go_num,by rw [Hlen.out];omega,HI2⟩
     ·have hkl2:ks.length=x.t.kids.length:=by have:=HI.out.kl;omega
      have Hd:=Lib.hid (HDone.out ks _ _ HI.out hkl2)
      have hkle:¬ (ks.length:Int) < (x.t.kids.length:Int):=by omega
      have hml:=Hd.out.2
      have Hkl2:=Lib.hid hkl2
      clear hkl2
      go_wp2
      go_roundg (massL (st0++ks))
      case measure=>omega
      case rel=>exact ⟨_,_,rfl,Nat.le_refl _,Hd.out.1⟩
end Go.Proofs.YtkgfdgfhpdhhaaaGreat
