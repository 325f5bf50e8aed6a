/- Where a formula holds: the table's rows. Conditions: the formula, the names and the lasso lie in the world; the formula may be. -/
import Derived.Test.YtkgfdgfhpdhhaaaGreatT19
namespace Go.Proofs.YtkgfdgfhpdhhaaaGreat
open Go.ChangeShapes Go.WideShapes Go.RowKit Go.Shelf
attribute [local go_sem] Oper.semAt_some
set_option maxRecDepth 100000
set_option maxHeartbeats 16000000
theorem cell_one {w:World} {b:Nat} {x:Value} {t:TypeId} (h:w.heap[b]? = some (.cells #[x] t (0,0))):w.cell? ⟨b,0,none⟩=some x∧w.frozen? ⟨b,0,none⟩=false:=⟨cell_row h 0 rfl,by simp [World.frozen?,h]⟩
theorem wp_append_run {P:Program} {w:World} {o:Oper} {a:Act} {K:Act→World→Prop} {Q:Exit→Act→World→Prop} (sl x:Operand) (t u:TypeId)
 (ho:o.op = .call { callee:= .builtin .append,args:=#[sl,x],argTypes:=#[t,u] }) (v xv:Value) (hs:a.eval sl=v) (hx:a.eval x=xv) (v':Value) (w':World)
 (hr:(Builtin.append_ #[t,u] o.type #[v,xv]).run P w = .ok v' w') (h:K (a.put o.dst v') w'):o.wp P a w K Q:=by
 unfold Oper.wp execOp
 simp only [ho,resolve,invoke,builtin,Sem.run_bind,Sem.run_pure,Result.andThen_ok,List.map_toArray,List.map_cons,List.map_nil,hs,hx,hr]
 exact h
theorem getD_some {A:List Bool} {i:Nat} (h:i < A.length):A[i]? = some (A.getD i false):=by rw [List.getD_eq_getElem?_getD,List.getElem?_eq_getElem h];rfl
theorem ite_len {n:Nat} (c:Prop) [Decidable c] (x y:List Bool) (hx:c→x.length=n) (hy:¬ c→y.length=n):(if c then x else y).length=n:=by
 split
 ·exact hx ‹_›
 ·exact hy ‹_›
theorem whereN_len (nr:List UInt8→List Bool) (np n:Nat) (k:Int) (nm:List UInt8) (l:List (List Bool)) (hnr:(nr nm).length=n) (h:8≤k→(l.getD 0 []).length=n∧(l.getD 1 []).length=n):(whereN nr np n k nm l).length=n:=by
 have hz:8≤k→∀ s:Bool→Bool→Bool,(List.zipWith s (l.getD 0 []) (l.getD 1 [])).length=n:=fun h8 s=>by
  obtain ⟨h3,h4⟩:=h h8
  rw [List.length_zipWith,h3,h4,Nat.min_self]
 unfold whereN
 repeat' (first | (refine ite_len _ _ _ (fun _=>?_) (fun _=>?_)))
 all_goals first | exact hnr | exact fixL_len _ _ _ _ _ | exact List.length_replicate | exact hz (by omega) _ | (rw [List.length_map,List.length_range])
theorem whereT_len (nr:List UInt8→List Bool) (np n:Nat) (hnr:∀ nm,(nr nm).length=n):∀ t:T,mayT t=true→(whereT nr np n t).length=n:=by
 refine kid_induct ?_
 intro t ih hm
 rw [whereT_eq]
 have hks:=may_kids hm
 refine whereN_len _ _ _ _ _ _ (hnr _) (fun h8=>?_)
 obtain ⟨a,b,hab⟩:=kids_two hm h8
 rw [hab] at ih hks ⊢
 exact ⟨ih a (by simp) (hks a (by simp)),ih b (by simp) (hks b (by simp))⟩
theorem Texts.nob {w w':World} {v:Value} {L:List (List UInt8)} (h:Texts w v L) (hc:Chg Nob w w'):Texts w' v L:=by
 obtain ⟨a0,cp0,e0,l0,h0⟩:=h
 exact ⟨a0,cp0,e0,l0,fun j x hj=>by obtain ⟨b1,o1,e1,h1⟩:=h0 j x hj;exact ⟨b1,o1,e1,hc.cell' h1 (fun e=>e)⟩⟩
structure TabW (w:World) (tb:Nat) (nv:Value) (ap:Option Addr) (cp:Nat) (al:Option Addr) (cl:Nat) (P L:List Int) (names:List (List UInt8)) (n:Nat):Prop where
 size:n=P.length+L.length
 tab:TabIs w tb nv ap P.length cp al L.length cl n
 few:P.length+L.length≤10000
 some:0 < L.length
 pre:URow w ap P
 loop:URow w al L
 pnil:ap=none→cp=0
 lnil:al=none→cl=0
 names:Texts w nv names
theorem TabW.nob {w w':World} {tb:Nat} {nv:Value} {ap al:Option Addr} {cp cl:Nat} {P L:List Int} {names:List (List UInt8)} {n:Nat} (h:TabW w tb nv ap cp al cl P L names n) (hc:Chg Nob w w'):TabW w' tb nv ap cp al cl P L names n :=
 ⟨h.size,hc.at h.tab (fun e=>e),h.few,h.some,h.pre.nob hc,h.loop.nob hc,h.pnil,h.lnil,h.names.nob hc⟩
def WhPost (n:Nat) (l:List Bool) (w:World) (e:Ending) (w':World):Prop:=Chg Nob w w'∧∃ g,w.heap.size≤g∧e = .returned (.slice (some ⟨g,0,none⟩) n n)∧BBlk w' g l
def nameRow (names:List (List UInt8)) (M:List Int) (nm:List UInt8):List Bool:=M.map (fun x=>bitB x (indexL names nm).toNat)
def NamesIn (names:List (List UInt8)) (t:T):Prop:=∀ u∈allT t,u.kind=3→u.name∈names
theorem allL_mem:∀ {l:List T} {u x:T},u∈l→x∈allT u→x∈allL l
 | [],_,_,h,_=>by simp at h
 | t::ts,u,x,h,hx=>by
   rw [allL]
   rcases List.mem_cons.1 h with e | h
   ·subst e;exact List.mem_append_left _ hx
   ·exact List.mem_append_right _ (allL_mem h hx)
theorem NamesIn.kid {names:List (List UInt8)} {t u:T} (h:NamesIn names t) (hu:u∈t.kids):NamesIn names u:=by
 intro x hx
 refine h x ?_
 cases t with
 | node k nm kids=>rw [allT];exact List.mem_cons_of_mem _ (allL_mem hu hx)
theorem NamesIn.own {names:List (List UInt8)} {t:T} (h:NamesIn names t) (hk:t.kind=3):t.name∈names:=by
 refine h t ?_ hk
 cases t with
 | node k nm kids=>rw [allT];exact List.mem_cons_self
section
variable {tb : Nat} {nv : Value} {ap al : Option Addr} {cp cl : Nat} {P L : List Int} {names : List (List UInt8)} {n : Nat}
theorem where_step {t:T} (hkn:names.length≤60) (hin:NamesIn names t) (hmay:mayT t=true)
 (ih:∀ u∈t.kids,∀ (R:Nat→Prop) (w:World) (v:Value),(∀ b,R b→b < w.heap.size)→IsTree R w u v→TabW w tb nv ap cp al cl P L names n→Calls Tryz.prog 59 #[.pointer (some ⟨tb,0,none⟩),v] w (WhPost n (whereT (nameRow names (P++L)) P.length n u) w))
 {R:Nat→Prop} {v:Value} {w:World} (hR:∀ b,R b→b < w.heap.size) (hv:IsTree R w t v) (hT:TabW w tb nv ap cp al cl P L names n):Calls Tryz.prog 59 #[.pointer (some ⟨tb,0,none⟩),v] w (WhPost n (whereT (nameRow names (P++L)) P.length n t) w):=by
 have hmf:∀ (fn:Fn) (first cap:Array Value) (w:World),(Instr.makeFunc fn first cap).run Tryz.prog w = .ok (.func fn first cap) w:=fun _ _ _ _=>rfl
 have hn4:n≤10000:=by rw [hT.size];exact hT.few
 by_cases hk3:t.kind=3
 ·obtain ⟨ao,cap,rfl,hlen,hkids⟩:=hv.parts
  have hk0:t.kids.length=0:=by
   rw [mayT_eq,Bool.and_eq_true] at hmay
   have h1:=hmay.1
   unfold okNode at h1
   rw [Bool.and_eq_true,decide_eq_true_eq] at h1
   have h2:=h1.1
   rw [hk3] at h2
   have:kidsOf 3=0:=rfl
   omega
  have hnm:=hin.own hk3
  have hix:indexL names t.name=((names.idxOf t.name:Nat):Int):=by unfold indexL;rw [if_pos hnm]
  have hlt:=List.idxOf_lt_length_of_mem hnm
  rw [whereT_eq,hk3,hk0]
  have h:=where_name n hT.size hT.tab hT.few hT.some hT.pre hT.loop hT.pnil hT.lnil hT.names t.name (names.idxOf t.name) hix (by omega) ao cap
  refine h.mono (fun e w' hp=>?_)
  have e3:whereN (nameRow names (P++L)) P.length n 3 t.name (t.kids.map (whereT (nameRow names (P++L)) P.length n))=(P++L).map (fun x=>bitB x (names.idxOf t.name)):=by
   unfold whereN nameRow
   simp [hix]
  rw [e3]
  exact hp
 obtain ⟨ao,cap,rfl,hlen,hkids⟩:=hv.parts
 have hkl:t.kids.length≤2:=by
  rw [mayT_eq,Bool.and_eq_true] at hmay
  have h1:=hmay.1
  unfold okNode at h1
  rw [Bool.and_eq_true,decide_eq_true_eq] at h1
  have h2:=h1.1
  unfold kidsOf at h2
  repeat' split at h2
  all_goals omega
 obtain ⟨W,hWe,hcW,hb0,hb1,hb2,hsW⟩:∃ W,W=((w.alloc (.cells #[.pointer (some ⟨tb,0,none⟩)] 97)).alloc (.cells #[.int .i64 t.kind,.string ⟨t.name.toArray⟩,.slice ao t.kids.length cap] 24)).alloc (.cells #[.slice none 0 0] 66)∧Chg Nob w W ∧
  W.heap[w.heap.size]? = some (.cells #[.pointer (some ⟨tb,0,none⟩)] 97 (0,0))∧W.heap[w.heap.size+1]? = some (.cells #[.int .i64 t.kind,.string ⟨t.name.toArray⟩,.slice ao t.kids.length cap] 24 (0,0))∧W.heap[w.heap.size+2]? = some (.cells #[.slice none 0 0] 66 (0,0))∧W.heap.size=w.heap.size+3:=by
  have h1:=heap_alloc_new (w.alloc (.cells #[.pointer (some ⟨tb,0,none⟩)] 97)) (.cells #[.int .i64 t.kind,.string ⟨t.name.toArray⟩,.slice ao t.kids.length cap] 24)
  have h2:=heap_alloc_new ((w.alloc (.cells #[.pointer (some ⟨tb,0,none⟩)] 97)).alloc (.cells #[.int .i64 t.kind,.string ⟨t.name.toArray⟩,.slice ao t.kids.length cap] 24)) (.cells #[.slice none 0 0] 66)
  rw [World.size_alloc] at h1
  rw [World.size_alloc,World.size_alloc] at h2
  exact ⟨_,rfl,(((Chg.refl _ _).alloc _).alloc _).alloc _,(((Chg.refl Nob _).alloc _).alloc _).at (heap_alloc_new w _) (fun e=>e),((Chg.refl Nob _).alloc _).at h1 (fun e=>e),h2,by rw [World.size_alloc,World.size_alloc,World.size_alloc]⟩
 obtain ⟨tr,htr⟩:∃ tr,tr=t.kids.map (whereT (nameRow names (P++L)) P.length n):=⟨_,rfl⟩
 have HR:=Lib.hid hR
 have HT:=Lib.hid hT
 have Hk:=Lib.hid hkids
 have HcW:=Lib.hid hcW
 have Hb0:=Lib.hid hb0
 have Hb1:=Lib.hid hb1
 have Hb2:=Lib.hid hb2
 have HsW:=Lib.hid hsW
 have Ih:=Lib.hid ih
 have Htr:=Lib.hid htr
 have Hmay:=Lib.hid hmay
 have Hk3:=Lib.hid hk3
 obtain ⟨c0,c1,c2,_⟩:=cells_three hb1
 have hrow0:Hid (WhRow n (w.heap.size+3) tr 0 (.slice none 0 0) [] W):=Lib.hid (⟨rfl,⟨rfl,.inl ⟨rfl,rfl⟩⟩,fun i g x h _=>by simp at h⟩)
 clear hR hv hT hkids hcW hb0 hb1 hb2 hsW ih htr hmay hk3 hin
 rw [hWe] at c2
 refine (callsIn_wide (n:=5)).1 (callsIn_of_wp_marks Tryz.func59 rfl trivial ?_ rfl)
 simp only [Tryz.ntmps59,List.size_toArray,List.length_cons,List.length_nil,Nat.reduceAdd,Nat.reduceSub,Array.replicate_succ,Array.replicate_zero,List.push_toArray,List.append_toArray,List.nil_append,List.cons_append]
 refine wpIn_wide.2 ?_
 go_wp2_with fail
 rw [← hWe]
 clear hWe c0 c1 c2
 go_loopw [17] (fun iv wr=>∃ (j:Nat) (sl:Value) (gs:List Nat),iv = .int .i64 (j:Int)∧j≤t.kids.length∧Hid (WhRow n (w.heap.size+3) tr j sl gs wr)∧Hid (wr.heap[w.heap.size+2]? = some (.cells #[sl] 66 (0,0)))∧Hid (Chg (fun q=>w.heap.size+2≤q) W wr)) (fun iv _=>t.kids.length - (intOf iv).toNat)
 case atStart=>exact ⟨0,_,_,rfl,Nat.zero_le _,hrow0,Hb2,Chg.refl _ _⟩
 case round =>
  clear hrow0
  obtain ⟨j,sl,gs,rfl,hj,HO,Hbx,Hc⟩:=hrel
  have hcw:Hid (Chg Nob w wr):=Lib.hid ((HcW.out.any (S:=fun q=>w.heap.size+2≤q)).trans1 Hc.out |>.mono (fun i hi e=>by omega))
  have hsr:Hid (w.heap.size+3≤wr.heap.size):=(show w.heap.size+3≤wr.heap.size by have:=Hc.out.size;have:=HsW.out;omega)
  have hb0r:=Hc.out.at Hb0.out (fun e=>by omega)
  have hb1r:=Hc.out.at Hb1.out (fun e=>by omega)
  by_cases hlt:j < t.kids.length
  ·obtain ⟨x,hx⟩:∃ x,t.kids[j]? = some x:=⟨_,List.getElem?_eq_getElem hlt⟩
   obtain ⟨bk,o,sx,cx,hao,hRb,p0,p1,p2,_,_,htx⟩:=Hk.out.kid hx
   have p0':=hcw.out.cell' p0 (fun e=>e)
   have p1':=hcw.out.cell' p1 (fun e=>e)
   have p2':=hcw.out.cell' p2 (fun e=>e)
   have hki:(j:Int) < (t.kids.length:Int):=by omega
   have hk0:(0:Int)≤(j:Int):=by omega
   have hA:Chg Nob wr (wr.alloc (.cells #[.int .i64 x.kind,.string ⟨x.name.toArray⟩,.slice sx x.kids.length cx] 24)):=(Chg.refl _ _).alloc _
   have hbA:=heap_alloc_new wr (.cells #[.int .i64 x.kind,.string ⟨x.name.toArray⟩,.slice sx x.kids.length cx] 24)
   have hsA:(wr.alloc (.cells #[.int .i64 x.kind,.string ⟨x.name.toArray⟩,.slice sx x.kids.length cx] 24)).heap.size=wr.heap.size+1:=World.size_alloc _ _
   obtain ⟨A,hAe⟩:∃ A,A=wr.alloc (.cells #[.int .i64 x.kind,.string ⟨x.name.toArray⟩,.slice sx x.kids.length cx] 24):=⟨_,rfl⟩
   rw [← hAe] at hA hbA hsA
   have hp:∀ X,Chg Nob A X→Calls Tryz.prog 59 #[.pointer (some ⟨tb,0,none⟩),.agg #[.int .i64 x.kind,.string ⟨x.name.toArray⟩,.slice sx x.kids.length cx]] X (WhPost n (whereT (nameRow names (P++L)) P.length n x) X) :=
    fun X hX=>Ih.out x (List.mem_of_getElem? hx) R X _ (fun b hb=>by have:=HR.out b hb;have:=hcw.out.size;have:=hA.size;have:=hX.size;omega) (htx.nob ((hcw.out.trans1 hA).trans1 hX)) (HT.out.nob ((hcw.out.trans1 hA).trans1 hX))
   have HA:=Lib.hid hA
   have Hp:=Lib.hid hp
   have Hx:Hid (tr[j]? = some (whereT (nameRow names (P++L)) P.length n x)):=(show _=_ by rw [Htr.out,List.getElem?_map,hx];rfl)
   have hbx:=hA.at Hbx.out (fun e=>e)
   have hb0A:=hA.at hb0r (fun e=>e)
   obtain ⟨y0,y1,y2,_⟩:=cells_three hbA
   obtain ⟨d0,d1,d2,_⟩:=cells_three hb1r
   have e0:=cell_row hbx 0 (v:=sl) rfl
   have e1:=cell_row hb0A 0 (v:= .pointer (some ⟨tb,0,none⟩)) rfl
   have hS:∀ w',Chg (fun q=>wr.heap.size+1≤q∨sl.ownBlock=some q) A w'→w'.cell? ⟨w.heap.size+2,0,none⟩=some sl∧w'.cell? ⟨w.heap.size,0,none⟩=some (.pointer (some ⟨tb,0,none⟩))∧w'.cell? ⟨wr.heap.size,0,none⟩=some (.int .i64 x.kind)∧w'.cell? ⟨wr.heap.size,1,none⟩=some (.string ⟨x.name.toArray⟩)∧w'.cell? ⟨wr.heap.size,2,none⟩=some (.slice sx x.kids.length cx):=fun w' h=>by
    have hh:=hsr.out
    have ho:∀ q,sl.ownBlock=some q→w.heap.size+3≤q∧q < wr.heap.size:=fun q hq=>HO.out.row.lt q hq
    refine ⟨h.cell' e0 ?_,h.cell' e1 ?_,h.cell' y0 ?_,h.cell' y1 ?_,h.cell' y2 ?_⟩
    all_goals (intro e;rcases e with e | e;(simp only at e;omega);(have:=ho _ e;simp only at this;omega))
   have HS:=Lib.hid hS
   have HsA:=Lib.hid hsA
   clear p0 p1 p2 htx hx hp hA hbx hb0A hbA hS hRb
   subst hao
   go_wp2_with fail
   rw [← hAe]
   clear hAe d0 d1 d2 p0' p1' p2' hb0r hb1r
   refine wp_region_free_N (fun j=>j != 6) (fun w'=>w'.cell? ⟨w.heap.size+2,0,none⟩=some sl∧w'.cell? ⟨w.heap.size,0,none⟩=some (.pointer (some ⟨tb,0,none⟩))∧w'.cell? ⟨wr.heap.size,0,none⟩=some (.int .i64 x.kind)∧w'.cell? ⟨wr.heap.size,1,none⟩=some (.string ⟨x.name.toArray⟩)∧w'.cell? ⟨wr.heap.size,2,none⟩=some (.slice sx x.kids.length cx)) (by kernel_rfl) ⟨e0,e1,y0,y1,y2⟩ (fun hHeld=>?_)
   refine tkG 0 hHeld ?_
   refine tkG 1 hHeld ?_
   refine tkG 2 hHeld ?_
   refine rdG 3 fun K hK=>?_
   go_simp
   (with_reducible refine (Hp.out _ (Chg.refl Nob A).drew).mono ?_)
   rintro e w4 ⟨hc4,g4,hg4,rfl,hb4⟩
   have Hc4:Hid (Chg Nob A w4):=Lib.hid ((Chg.refl Nob A).drew.trans1 hc4)
   have Hg4:Hid (wr.heap.size+1≤g4):=(show wr.heap.size+1≤g4 by have h:A.heap.size≤g4:=hg4;have:=HsA.out;omega)
   have Hb4:=Lib.hid hb4
   clear hc4 hg4 hb4
   refine hK.out _ _ (fun _=>HS.out _ Hc4.out.any) ?_
   clear hK K
   try simp only [Act.put]
   refine rdG 4 fun K hK=>?_
   have h5:=HS.out _ ((Hc4.out.alloc (.cells #[(.slice (some ⟨g4,0,none⟩) n n)] 34)).any)
   go_simp
   refine hK.out _ _ (fun _=>h5) ?_
   clear hK K h5
   try simp only [Act.put]
   refine rdG 5 fun K hK=>?_
   have hrow5:=ownsRow_chg (ownsRow_chg HO.out.row (HA.out.trans1 Hc4.out) (fun _ _ e=>e)) ((Chg.refl Nob w4).alloc (.cells #[(.slice (some ⟨g4,0,none⟩) n n)] 34)) (fun _ _ e=>e)
   obtain ⟨g',capg,w6,hrun,hrow6,hgr,hlies,hg6⟩:=append116 hrow5 (by have h1:=hsr.out;have h2:=HsA.out;have h3:=Hc4.out.size;rw [World.size_alloc];omega) (by omega) ⟨_,_,_,rfl⟩ (heap_alloc_new w4 (.cells #[(.slice (some ⟨g4,0,none⟩) n n)] 34))
   obtain ⟨hO6,hc6⟩:=HO.out.next (x:=whereT (nameRow names (P++L)) P.length n x) hsr.out Hx.out (HA.out.trans1 Hc4.out) (by have:=Hg4.out;omega) Hb4.out hrow6 hgr hlies
   have HO6:=Lib.hid hO6
   have Hc6:=Lib.hid hc6
   have hcA6:Chg (fun q=>wr.heap.size+1≤q∨sl.ownBlock=some q) A w6:=((Hc4.out.alloc _).any (S:=fun q=>wr.heap.size+1≤q∨sl.ownBlock=some q)).trans1 ((Chg.refl _ _).grown hgr (fun q hq _=> .inr hq))
   have h6:=HS.out _ hcA6
   have Hbx6:=Lib.hid (hc6.at Hbx.out (fun e=>by have:=(HO.out.row.lt _ e).1;omega))
   refine wp_append_run (.tmp 21) (.tmp 25) 66 66 rfl _ _ rfl rfl _ w6 hrun ?_
   clear hrow5 hrun hrow6 hgr hlies hg6 hO6 hc6 hcA6
   refine hK.out _ _ (fun _=>h6) ?_
   clear hK K
   try simp only [Act.put]
   refine rdG 6 fun K hK=>?_
   obtain ⟨z0,f0⟩:=cell_one Hbx6.out
   have hs:Chg (At1 (w.heap.size+2)) w6 (w6.setCell ⟨w.heap.size+2,0,none⟩ (.slice (some ⟨g',0,none⟩) (j+1) capg)):=(Chg.refl (At1 (w.heap.size+2)) w6).setCell (p:=⟨w.heap.size+2,0,none⟩) (fun _=>rfl) _
   have HO7:=Lib.hid (HO6.out.chg hs (fun q hq e=>by have e:q=w.heap.size+2:=e;omega))
   have Hbx7:=Lib.hid (block_one_set (u:= .slice (some ⟨g',0,none⟩) (j+1) capg) Hbx6.out)
   have Hc7:Hid (Chg (fun q=>w.heap.size+2≤q) W _):=Hc.out.trans1 ((Hc6.out.mono (fun q _ e=>by have:=(HO.out.row.lt _ e).1;omega)).trans1 (hs.mono (fun q _ e=>by have e:q=w.heap.size+2:=e;omega)))
   clear hs
   go_simp
   refine hK.out _ _ (fun h=>absurd h (by decide)) ?_
   clear hK K z0 f0 h6 HS Hp Hbx6 HO6 HO e0 e1 y0 y1 y2
   try simp only [Act.put]
   refine wpAnyG_done (by kernel_rfl) ?_ _
   clear hHeld
   try go_simp
   dsimp only [onlyN]
   generalize w6.setCell ⟨w.heap.size+2,0,none⟩ (.slice (some ⟨g',0,none⟩) (j+1) capg)=w7 at *
   go_wp2_with fail
   go_roundw
   case rel=>exact ⟨j+1,_,_,by go_num,by omega,HO7,Hbx7,Hc7⟩
   case measure=>simp [intOf];omega
  ·obtain rfl:j=t.kids.length:=by omega
   obtain ⟨d0,d1,d2,_⟩:=cells_three hb1r
   have e0:=cell_row hb0r 0 (v:= .pointer (some ⟨tb,0,none⟩)) rfl
   have bx:=cell_row Hbx.out 0 (v:=sl) rfl
   have HV:=Lib.hid (HT.out.nob hcw.out)
   have hkk:kidsOf t.kind=t.kids.length:=by
    have h:=Hmay.out
    rw [mayT_eq,Bool.and_eq_true] at h
    have h1:=h.1
    unfold okNode at h1
    rw [Bool.and_eq_true,decide_eq_true_eq] at h1
    exact h1.1
   have hfin:∀ (w':World) (g:Nat) (l:List Bool),l=whereT (nameRow names (P++L)) P.length n t→Chg Nob wr w'→wr.heap.size≤g→BBlk w' g l→WhPost n (whereT (nameRow names (P++L)) P.length n t) w (.returned (.slice (some ⟨g,0,none⟩) n n)) w':=fun w' g l hl hc hg hb=>⟨hcw.out.trans1 hc,_,by have:=hcw.out.size;omega,rfl,hl ▸ hb⟩
   have Hfin:=Lib.hid hfin
   have Hlen:=Lib.hid (fun (u:T) (hu:u∈t.kids)=>whereT_len (nameRow names (P++L)) P.length n (fun _=>by unfold nameRow;rw [List.length_map,List.length_append];exact HT.out.size.symm) u (may_kids Hmay.out u hu))
   have hwt:=whereT_eq (nameRow names (P++L)) P.length n t
   rw [← Htr.out] at hwt
   have Hwt:=Lib.hid hwt
   have hnp:P.length < n:=by rw [HT.out.size];have:=HT.out.some;omega
   have hk14:t.kind=1∨t.kind=2∨t.kind=4∨t.kind=5∨t.kind=6∨t.kind=7∨t.kind=8∨t.kind=9∨t.kind=10∨t.kind=11∨t.kind=12∨t.kind=13∨t.kind=14:=by
    have:=Hk3.out
    unfold kidsOf at hkk
    repeat' split at hkk
    all_goals omega
   have HO':=HO
   clear hb0r hb1r hfin hwt HO Hc Hb0 Hb1 Hb2 HcW HsW Ih HR Hmay Hk3 hj hkl
   have hHall:∀ X b,Chg Nob wr X→Calls Tryz.prog 96 #[.bool b,.pointer (some ⟨w.heap.size,0,none⟩)] X fun e w'=>Chg Nob X w'∧∃ g,X.heap.size≤g∧e = .returned (.slice (some ⟨g,0,none⟩) n n)∧BBlk w' g (List.replicate n b):=fun X b hX=>all_any (w:=X) (HV.out.nob hX).tab hn4 (hX.cell' e0 (fun e=>e)) b
   have hHfix:∀ X ga gb A B b,Chg Nob wr X→BBlk X ga A→BBlk X gb B→A.length=n→B.length=n→Calls Tryz.prog 104 #[.pointer (some ⟨tb,0,none⟩),.slice (some ⟨ga,0,none⟩) n n,.slice (some ⟨gb,0,none⟩) n n,.bool b] X fun e w'=>Chg Nob X w'∧∃ g,X.heap.size≤g∧e = .returned (.slice (some ⟨g,0,none⟩) n n)∧BBlk w' g (fixL P.length n A B b):=fun X ga gb A B b hX h1 h2 h3 h4=>fix_any (w:=X) (HV.out.nob hX).tab h1 h2 h3 h4 hn4 hnp b
   have hHboth:∀ X ga gb A B k (s:Bool→Bool→Bool),BBlk X ga A→BBlk X gb B→A.length=n→B.length=n→Enters Tryz.prog k→(∀ x y W,Calls Tryz.prog k #[.bool x,.bool y] W fun e W'=>e = .returned (.bool (s x y))∧Chg Nob W W')→Calls Tryz.prog 105 #[.slice (some ⟨ga,0,none⟩) n n,.slice (some ⟨gb,0,none⟩) n n,.func (.func k) #[] #[]] X fun e w'=>Chg Nob X w'∧∃ g,X.heap.size≤g∧e = .returned (.slice (some ⟨g,0,none⟩) n n)∧BBlk w' g (List.zipWith s A B):=fun X ga gb A B k s h1 h2 h3 h4 h5 h6=>both_any (w:=X) h1 h2 h3 h4 hn4 k h5 s h6
   have Hall:=Lib.hid hHall
   have Hfix:=Lib.hid hHfix
   have Hboth:=Lib.hid hHboth
   clear hHall hHfix hHboth
   rcases hk14 with hk | hk | hk | hk | hk | hk | hk | hk | hk | hk | hk | hk | hk
   ·rw [hk] at d0
    have Hp:=Lib.hid (all_any (w:=wr) HV.out.tab hn4 (pb:=w.heap.size) e0 true)
    have hl:List.replicate n true=whereT (nameRow names (P++L)) P.length n t:=by rw [Hwt.out,hk];rfl
    go_wp2_with fail
    (with_reducible refine Hp.out.mono ?_)
    rintro e w5 ⟨hc5,g5,hg5,rfl,hb5⟩
    have Hpost:=Lib.hid (Hfin.out _ _ _ (hl) hc5 hg5 hb5)
    clear Hp hc5 hg5 hb5
    go_wp2_with fail
    refine ⟨_,results_tmp rfl _ _ _,?_⟩
    exact Hpost.out
   ·rw [hk] at d0
    have Hp:=Lib.hid (all_any (w:=wr) HV.out.tab hn4 (pb:=w.heap.size) e0 false)
    have hl:List.replicate n false=whereT (nameRow names (P++L)) P.length n t:=by rw [Hwt.out,hk];rfl
    go_wp2_with fail
    (with_reducible refine Hp.out.mono ?_)
    rintro e w5 ⟨hc5,g5,hg5,rfl,hb5⟩
    have Hpost:=Lib.hid (Hfin.out _ _ _ (hl) hc5 hg5 hb5)
    clear Hp hc5 hg5 hb5
    go_wp2_with fail
    refine ⟨_,results_tmp rfl _ _ _,?_⟩
    exact Hpost.out
   ·rw [hk] at d0
    have hkn2:t.kids.length=1:=by rw [hk] at hkk;have:kidsOf 4=1:=rfl;omega
    obtain ⟨a,hab⟩:∃ a,t.kids=[a]:=by
     match hkk2:t.kids,hkn2 with
     | [a],_=>exact ⟨a,rfl⟩
    obtain ⟨A,hA⟩:∃ A,A=whereT (nameRow names (P++L)) P.length n a:=⟨_,rfl⟩
    have HlA:Hid (A.length=n):=Lib.hid (hA ▸ Hlen.out a (by rw [hab];simp))
    obtain ⟨r,c,g0,hsl,hrl,r0,B0⟩:=HO'.out.at (i:=0) (by omega) (x:=A) (by rw [Htr.out,hab,hA];rfl)
    have htr2:tr=[A]:=by rw [Htr.out,hab,hA];rfl
    subst hsl
    have HB0:=Lib.hid B0
    have HS:Hid (∀ w',Chg Nob wr w'→w'.cell? ⟨w.heap.size,0,none⟩=some (.pointer (some ⟨tb,0,none⟩))∧w'.cell? ⟨w.heap.size+2,0,none⟩=some (.slice (some ⟨r,0,none⟩) t.kids.length c)∧w'.cell? ⟨r,0,none⟩=some (.slice (some ⟨g0,0,none⟩) n n)):=(show ∀ w',Chg Nob wr w'→_ from fun w' h=>⟨h.cell' e0 (fun e=>e),h.cell' bx (fun e=>e),h.cell' r0 (fun e=>e)⟩)
    have hk01:(0:Int) < (t.kids.length:Int):=by omega
    rw [htr2] at Hwt
    clear B0 hA htr2 hab hrl
    have hl:(List.range n).map (fun i=>!(A.getD i false))=whereT (nameRow names (P++L)) P.length n t:=by rw [Hwt.out,hk];rfl
    have Hp:=Lib.hid (each_any (w:=wr) HV.out.tab hn4 101 #[.pointer (some ⟨w.heap.size+2,0,none⟩)] (enters_of Tryz.func101 (by kernel_rfl) rfl) (fun i=>!(A.getD i false)) (fun i hi X hX=>not1_any (w:=X) (hX.cell' bx (fun e=>e)) (by omega) (hX.cell' r0 (fun e=>e)) (HB0.out.chg hX (fun e=>e)) i hi (A.getD i false) (getD_some (by rw [HlA.out];exact hi))))
    go_wp2_with fail
    (with_reducible refine Hp.out.mono ?_)
    rintro e w5 ⟨hc5,g5,hg5,rfl,hb5⟩
    have Hpost:=Lib.hid (Hfin.out _ _ _ (hl) hc5 hg5 hb5)
    clear Hp hc5 hg5 hb5
    go_wp2_with fail
    refine ⟨_,results_tmp rfl _ _ _,?_⟩
    exact Hpost.out
   ·rw [hk] at d0
    have hkn2:t.kids.length=1:=by rw [hk] at hkk;have:kidsOf 5=1:=rfl;omega
    obtain ⟨a,hab⟩:∃ a,t.kids=[a]:=by
     match hkk2:t.kids,hkn2 with
     | [a],_=>exact ⟨a,rfl⟩
    obtain ⟨A,hA⟩:∃ A,A=whereT (nameRow names (P++L)) P.length n a:=⟨_,rfl⟩
    have HlA:Hid (A.length=n):=Lib.hid (hA ▸ Hlen.out a (by rw [hab];simp))
    obtain ⟨r,c,g0,hsl,hrl,r0,B0⟩:=HO'.out.at (i:=0) (by omega) (x:=A) (by rw [Htr.out,hab,hA];rfl)
    have htr2:tr=[A]:=by rw [Htr.out,hab,hA];rfl
    subst hsl
    have HB0:=Lib.hid B0
    have HS:Hid (∀ w',Chg Nob wr w'→w'.cell? ⟨w.heap.size,0,none⟩=some (.pointer (some ⟨tb,0,none⟩))∧w'.cell? ⟨w.heap.size+2,0,none⟩=some (.slice (some ⟨r,0,none⟩) t.kids.length c)∧w'.cell? ⟨r,0,none⟩=some (.slice (some ⟨g0,0,none⟩) n n)):=(show ∀ w',Chg Nob wr w'→_ from fun w' h=>⟨h.cell' e0 (fun e=>e),h.cell' bx (fun e=>e),h.cell' r0 (fun e=>e)⟩)
    have hk01:(0:Int) < (t.kids.length:Int):=by omega
    rw [htr2] at Hwt
    clear B0 hA htr2 hab hrl
    have hl:(List.range n).map (fun i=>A.getD (nextN P.length n i) false)=whereT (nameRow names (P++L)) P.length n t:=by rw [Hwt.out,hk];rfl
    have Hp:=Lib.hid (each_any (w:=wr) HV.out.tab hn4 102 #[.pointer (some ⟨w.heap.size+2,0,none⟩),.pointer (some ⟨w.heap.size,0,none⟩)] (enters_of Tryz.func102 (by kernel_rfl) rfl) (fun i=>A.getD (nextN P.length n i) false) (fun i hi X hX=>next1_any (w:=X) (HV.out.nob hX).tab hn4 hnp (hX.cell' e0 (fun e=>e)) (hX.cell' bx (fun e=>e)) (by omega) (hX.cell' r0 (fun e=>e)) (HB0.out.chg hX (fun e=>e)) i hi (A.getD (nextN P.length n i) false) (getD_some (by rw [HlA.out];unfold nextN;split <;> omega))))
    go_wp2_with fail
    (with_reducible refine Hp.out.mono ?_)
    rintro e w5 ⟨hc5,g5,hg5,rfl,hb5⟩
    have Hpost:=Lib.hid (Hfin.out _ _ _ (hl) hc5 hg5 hb5)
    clear Hp hc5 hg5 hb5
    go_wp2_with fail
    refine ⟨_,results_tmp rfl _ _ _,?_⟩
    exact Hpost.out
   ·rw [hk] at d0
    have hkn2:t.kids.length=1:=by rw [hk] at hkk;have:kidsOf 6=1:=rfl;omega
    obtain ⟨a,hab⟩:∃ a,t.kids=[a]:=by
     match hkk2:t.kids,hkn2 with
     | [a],_=>exact ⟨a,rfl⟩
    obtain ⟨A,hA⟩:∃ A,A=whereT (nameRow names (P++L)) P.length n a:=⟨_,rfl⟩
    have HlA:Hid (A.length=n):=Lib.hid (hA ▸ Hlen.out a (by rw [hab];simp))
    obtain ⟨r,c,g0,hsl,hrl,r0,B0⟩:=HO'.out.at (i:=0) (by omega) (x:=A) (by rw [Htr.out,hab,hA];rfl)
    have htr2:tr=[A]:=by rw [Htr.out,hab,hA];rfl
    subst hsl
    have HB0:=Lib.hid B0
    have HS:Hid (∀ w',Chg Nob wr w'→w'.cell? ⟨w.heap.size,0,none⟩=some (.pointer (some ⟨tb,0,none⟩))∧w'.cell? ⟨w.heap.size+2,0,none⟩=some (.slice (some ⟨r,0,none⟩) t.kids.length c)∧w'.cell? ⟨r,0,none⟩=some (.slice (some ⟨g0,0,none⟩) n n)):=(show ∀ w',Chg Nob wr w'→_ from fun w' h=>⟨h.cell' e0 (fun e=>e),h.cell' bx (fun e=>e),h.cell' r0 (fun e=>e)⟩)
    have hk01:(0:Int) < (t.kids.length:Int):=by omega
    rw [htr2] at Hwt
    clear B0 hA htr2 hab hrl
    have hl:fixL P.length n (List.replicate n false) A true=whereT (nameRow names (P++L)) P.length n t:=by rw [Hwt.out,hk];rfl
    go_wp2_with fail
    refine wp_region_free_N (fun _=>true) (fun w'=>w'.cell? ⟨w.heap.size,0,none⟩=some (.pointer (some ⟨tb,0,none⟩))∧w'.cell? ⟨w.heap.size+2,0,none⟩=some (.slice (some ⟨r,0,none⟩) t.kids.length c)∧w'.cell? ⟨r,0,none⟩=some (.slice (some ⟨g0,0,none⟩) n n)) (by kernel_rfl) ⟨e0,bx,r0⟩ (fun hHeld=>?_)
    refine tkG 0 hHeld ?_
    refine tkG 1 hHeld ?_
    refine tkG 3 hHeld ?_
    refine tkG 4 hHeld ?_
    refine tkG 5 hHeld ?_
    refine rdG 2 fun K hK=>?_
    go_simp
    (with_reducible refine (Hall.out _ false ((Chg.refl Nob wr).drew)).mono ?_)
    rintro e v1 ⟨hc5,g51,hg5,rfl,hb5⟩
    have Hv1:Hid (Chg Nob wr v1):=Lib.hid (((Chg.refl Nob wr).drew).trans1 hc5)
    have Hb5:=Lib.hid hb5
    clear hc5 hg5 hb5
    refine hK.out _ _ (fun _=>HS.out _ Hv1.out) ?_
    clear hK K
    try simp only [Act.put]
    refine rdG 6 fun K hK=>?_
    go_simp
    (with_reducible refine (Hfix.out _ _ _ _ _ true (Hv1.out) Hb5.out (HB0.out.chg (Hv1.out) (fun e=>e)) List.length_replicate HlA.out).mono ?_)
    rintro e v2 ⟨hc5,g52,hg5,rfl,hb5⟩
    have Hv2:Hid (Chg Nob wr v2):=Lib.hid ((Hv1.out).trans1 hc5)
    have Hpost:=Lib.hid (Hfin.out _ _ _ (hl) Hv2.out (by have h1:=(Hv1.out).size;omega) hb5)
    clear hc5 hg5 hb5
    refine hK.out _ _ (fun _=>HS.out _ Hv2.out) ?_
    clear hK K
    try simp only [Act.put]
    refine tkG 7 (HS.out _ Hv2.out) ?_
    refine wpAnyG_done (by kernel_rfl) ?_ _
    clear hHeld
    try go_simp
    dsimp only [onlyN]
    go_wp2_with fail
    refine ⟨_,results_tmp rfl _ _ _,?_⟩
    exact Hpost.out
   ·rw [hk] at d0
    have hkn2:t.kids.length=1:=by rw [hk] at hkk;have:kidsOf 7=1:=rfl;omega
    obtain ⟨a,hab⟩:∃ a,t.kids=[a]:=by
     match hkk2:t.kids,hkn2 with
     | [a],_=>exact ⟨a,rfl⟩
    obtain ⟨A,hA⟩:∃ A,A=whereT (nameRow names (P++L)) P.length n a:=⟨_,rfl⟩
    have HlA:Hid (A.length=n):=Lib.hid (hA ▸ Hlen.out a (by rw [hab];simp))
    obtain ⟨r,c,g0,hsl,hrl,r0,B0⟩:=HO'.out.at (i:=0) (by omega) (x:=A) (by rw [Htr.out,hab,hA];rfl)
    have htr2:tr=[A]:=by rw [Htr.out,hab,hA];rfl
    subst hsl
    have HB0:=Lib.hid B0
    have HS:Hid (∀ w',Chg Nob wr w'→w'.cell? ⟨w.heap.size,0,none⟩=some (.pointer (some ⟨tb,0,none⟩))∧w'.cell? ⟨w.heap.size+2,0,none⟩=some (.slice (some ⟨r,0,none⟩) t.kids.length c)∧w'.cell? ⟨r,0,none⟩=some (.slice (some ⟨g0,0,none⟩) n n)):=(show ∀ w',Chg Nob wr w'→_ from fun w' h=>⟨h.cell' e0 (fun e=>e),h.cell' bx (fun e=>e),h.cell' r0 (fun e=>e)⟩)
    have hk01:(0:Int) < (t.kids.length:Int):=by omega
    rw [htr2] at Hwt
    clear B0 hA htr2 hab hrl
    have hl:fixL P.length n A (List.replicate n true) false=whereT (nameRow names (P++L)) P.length n t:=by rw [Hwt.out,hk];rfl
    go_wp2_with fail
    refine wp_region_free_N (fun _=>true) (fun w'=>w'.cell? ⟨w.heap.size,0,none⟩=some (.pointer (some ⟨tb,0,none⟩))∧w'.cell? ⟨w.heap.size+2,0,none⟩=some (.slice (some ⟨r,0,none⟩) t.kids.length c)∧w'.cell? ⟨r,0,none⟩=some (.slice (some ⟨g0,0,none⟩) n n)) (by kernel_rfl) ⟨e0,bx,r0⟩ (fun hHeld=>?_)
    refine tkG 0 hHeld ?_
    refine tkG 1 hHeld ?_
    refine tkG 2 hHeld ?_
    refine tkG 3 hHeld ?_
    refine tkG 4 hHeld ?_
    refine rdG 5 fun K hK=>?_
    go_simp
    (with_reducible refine (Hall.out _ true ((Chg.refl Nob wr).drew)).mono ?_)
    rintro e v1 ⟨hc5,g51,hg5,rfl,hb5⟩
    have Hv1:Hid (Chg Nob wr v1):=Lib.hid (((Chg.refl Nob wr).drew).trans1 hc5)
    have Hb5:=Lib.hid hb5
    clear hc5 hg5 hb5
    refine hK.out _ _ (fun _=>HS.out _ Hv1.out) ?_
    clear hK K
    try simp only [Act.put]
    refine rdG 6 fun K hK=>?_
    go_simp
    (with_reducible refine (Hfix.out _ _ _ _ _ false (Hv1.out) (HB0.out.chg (Hv1.out) (fun e=>e)) Hb5.out HlA.out List.length_replicate).mono ?_)
    rintro e v2 ⟨hc5,g52,hg5,rfl,hb5⟩
    have Hv2:Hid (Chg Nob wr v2):=Lib.hid ((Hv1.out).trans1 hc5)
    have Hpost:=Lib.hid (Hfin.out _ _ _ (hl) Hv2.out (by have h1:=(Hv1.out).size;omega) hb5)
    clear hc5 hg5 hb5
    refine hK.out _ _ (fun _=>HS.out _ Hv2.out) ?_
    clear hK K
    try simp only [Act.put]
    refine tkG 7 (HS.out _ Hv2.out) ?_
    refine wpAnyG_done (by kernel_rfl) ?_ _
    clear hHeld
    try go_simp
    dsimp only [onlyN]
    go_wp2_with fail
    refine ⟨_,results_tmp rfl _ _ _,?_⟩
    exact Hpost.out
   ·rw [hk] at d0
    have hkn2:t.kids.length=2:=by rw [hk] at hkk;have:kidsOf 8=2:=rfl;omega
    obtain ⟨a,b,hab⟩:∃ a b,t.kids=[a,b]:=by
     match hkk2:t.kids,hkn2 with
     | [a,b],_=>exact ⟨a,b,rfl⟩
    obtain ⟨A,hA⟩:∃ A,A=whereT (nameRow names (P++L)) P.length n a:=⟨_,rfl⟩
    have HlA:Hid (A.length=n):=Lib.hid (hA ▸ Hlen.out a (by rw [hab];simp))
    obtain ⟨r,c,g0,hsl,hrl,r0,B0⟩:=HO'.out.at (i:=0) (by omega) (x:=A) (by rw [Htr.out,hab,hA];rfl)
    obtain ⟨B,hB⟩:∃ B,B=whereT (nameRow names (P++L)) P.length n b:=⟨_,rfl⟩
    have HlB:Hid (B.length=n):=Lib.hid (hB ▸ Hlen.out b (by rw [hab];simp))
    obtain ⟨r2,c2,g1,hsl2,_,r1,B1⟩:=HO'.out.at (i:=1) (by omega) (x:=B) (by rw [Htr.out,hab,hB];rfl)
    rw [hsl] at hsl2
    cases hsl2
    have HB1:=Lib.hid B1
    have htr2:tr=[A,B]:=by rw [Htr.out,hab,hA,hB];rfl
    clear B1 hB
    subst hsl
    have HB0:=Lib.hid B0
    have HS:Hid (∀ w',Chg Nob wr w'→w'.cell? ⟨w.heap.size,0,none⟩=some (.pointer (some ⟨tb,0,none⟩))∧w'.cell? ⟨w.heap.size+2,0,none⟩=some (.slice (some ⟨r,0,none⟩) t.kids.length c)∧w'.cell? ⟨r,0,none⟩=some (.slice (some ⟨g0,0,none⟩) n n)∧w'.cell? ⟨r,1,none⟩=some (.slice (some ⟨g1,0,none⟩) n n)):=(show ∀ w',Chg Nob wr w'→_ from fun w' h=>⟨h.cell' e0 (fun e=>e),h.cell' bx (fun e=>e),h.cell' r0 (fun e=>e),h.cell' r1 (fun e=>e)⟩)
    have hk01:(0:Int) < (t.kids.length:Int):=by omega
    have hk11:(1:Int) < (t.kids.length:Int):=by omega
    rw [htr2] at Hwt
    clear B0 hA htr2 hab hrl
    have hl:List.zipWith (fun x y=>x&&y) A B=whereT (nameRow names (P++L)) P.length n t:=by rw [Hwt.out,hk];rfl
    go_wp2_with fail
    refine wp_region_free_N (fun _=>true) (fun w'=>w'.cell? ⟨w.heap.size,0,none⟩=some (.pointer (some ⟨tb,0,none⟩))∧w'.cell? ⟨w.heap.size+2,0,none⟩=some (.slice (some ⟨r,0,none⟩) t.kids.length c)∧w'.cell? ⟨r,0,none⟩=some (.slice (some ⟨g0,0,none⟩) n n)∧w'.cell? ⟨r,1,none⟩=some (.slice (some ⟨g1,0,none⟩) n n)) (by kernel_rfl) ⟨e0,bx,r0,r1⟩ (fun hHeld=>?_)
    refine tkG 0 hHeld ?_
    refine tkG 1 hHeld ?_
    refine tkG 2 hHeld ?_
    refine tkG 3 hHeld ?_
    refine tkG 4 hHeld ?_
    refine tkG 5 hHeld ?_
    refine rdG 6 fun K hK=>?_
    go_simp
    (with_reducible refine (Hboth.out _ _ _ _ _ 106 (fun x y=>x&&y) (HB0.out.chg ((Chg.refl Nob wr).drew) (fun e=>e)) (HB1.out.chg ((Chg.refl Nob wr).drew) (fun e=>e)) HlA.out HlB.out (enters_of Tryz.func106 (by kernel_rfl) rfl) (fun x y W=>tand_any x y W)).mono ?_)
    rintro e v1 ⟨hc5,g51,hg5,rfl,hb5⟩
    have Hv1:Hid (Chg Nob wr v1):=Lib.hid (((Chg.refl Nob wr).drew).trans1 hc5)
    have Hpost:=Lib.hid (Hfin.out _ _ _ (hl) Hv1.out (by have h1:=((Chg.refl Nob wr).drew).size;omega) hb5)
    clear hc5 hg5 hb5
    refine hK.out _ _ (fun _=>HS.out _ Hv1.out) ?_
    clear hK K
    try simp only [Act.put]
    refine tkG 7 (HS.out _ Hv1.out) ?_
    refine wpAnyG_done (by kernel_rfl) ?_ _
    clear hHeld
    try go_simp
    dsimp only [onlyN]
    go_wp2_with fail
    refine ⟨_,results_tmp rfl _ _ _,?_⟩
    exact Hpost.out
   ·rw [hk] at d0
    have hkn2:t.kids.length=2:=by rw [hk] at hkk;have:kidsOf 9=2:=rfl;omega
    obtain ⟨a,b,hab⟩:∃ a b,t.kids=[a,b]:=by
     match hkk2:t.kids,hkn2 with
     | [a,b],_=>exact ⟨a,b,rfl⟩
    obtain ⟨A,hA⟩:∃ A,A=whereT (nameRow names (P++L)) P.length n a:=⟨_,rfl⟩
    have HlA:Hid (A.length=n):=Lib.hid (hA ▸ Hlen.out a (by rw [hab];simp))
    obtain ⟨r,c,g0,hsl,hrl,r0,B0⟩:=HO'.out.at (i:=0) (by omega) (x:=A) (by rw [Htr.out,hab,hA];rfl)
    obtain ⟨B,hB⟩:∃ B,B=whereT (nameRow names (P++L)) P.length n b:=⟨_,rfl⟩
    have HlB:Hid (B.length=n):=Lib.hid (hB ▸ Hlen.out b (by rw [hab];simp))
    obtain ⟨r2,c2,g1,hsl2,_,r1,B1⟩:=HO'.out.at (i:=1) (by omega) (x:=B) (by rw [Htr.out,hab,hB];rfl)
    rw [hsl] at hsl2
    cases hsl2
    have HB1:=Lib.hid B1
    have htr2:tr=[A,B]:=by rw [Htr.out,hab,hA,hB];rfl
    clear B1 hB
    subst hsl
    have HB0:=Lib.hid B0
    have HS:Hid (∀ w',Chg Nob wr w'→w'.cell? ⟨w.heap.size,0,none⟩=some (.pointer (some ⟨tb,0,none⟩))∧w'.cell? ⟨w.heap.size+2,0,none⟩=some (.slice (some ⟨r,0,none⟩) t.kids.length c)∧w'.cell? ⟨r,0,none⟩=some (.slice (some ⟨g0,0,none⟩) n n)∧w'.cell? ⟨r,1,none⟩=some (.slice (some ⟨g1,0,none⟩) n n)):=(show ∀ w',Chg Nob wr w'→_ from fun w' h=>⟨h.cell' e0 (fun e=>e),h.cell' bx (fun e=>e),h.cell' r0 (fun e=>e),h.cell' r1 (fun e=>e)⟩)
    have hk01:(0:Int) < (t.kids.length:Int):=by omega
    have hk11:(1:Int) < (t.kids.length:Int):=by omega
    rw [htr2] at Hwt
    clear B0 hA htr2 hab hrl
    have hl:List.zipWith (fun x y=>x || y) A B=whereT (nameRow names (P++L)) P.length n t:=by rw [Hwt.out,hk];rfl
    go_wp2_with fail
    refine wp_region_free_N (fun _=>true) (fun w'=>w'.cell? ⟨w.heap.size,0,none⟩=some (.pointer (some ⟨tb,0,none⟩))∧w'.cell? ⟨w.heap.size+2,0,none⟩=some (.slice (some ⟨r,0,none⟩) t.kids.length c)∧w'.cell? ⟨r,0,none⟩=some (.slice (some ⟨g0,0,none⟩) n n)∧w'.cell? ⟨r,1,none⟩=some (.slice (some ⟨g1,0,none⟩) n n)) (by kernel_rfl) ⟨e0,bx,r0,r1⟩ (fun hHeld=>?_)
    refine tkG 0 hHeld ?_
    refine tkG 1 hHeld ?_
    refine tkG 2 hHeld ?_
    refine tkG 3 hHeld ?_
    refine tkG 4 hHeld ?_
    refine tkG 5 hHeld ?_
    refine rdG 6 fun K hK=>?_
    go_simp
    (with_reducible refine (Hboth.out _ _ _ _ _ 107 (fun x y=>x || y) (HB0.out.chg ((Chg.refl Nob wr).drew) (fun e=>e)) (HB1.out.chg ((Chg.refl Nob wr).drew) (fun e=>e)) HlA.out HlB.out (enters_of Tryz.func107 (by kernel_rfl) rfl) (fun x y W=>tor_any x y W)).mono ?_)
    rintro e v1 ⟨hc5,g51,hg5,rfl,hb5⟩
    have Hv1:Hid (Chg Nob wr v1):=Lib.hid (((Chg.refl Nob wr).drew).trans1 hc5)
    have Hpost:=Lib.hid (Hfin.out _ _ _ (hl) Hv1.out (by have h1:=((Chg.refl Nob wr).drew).size;omega) hb5)
    clear hc5 hg5 hb5
    refine hK.out _ _ (fun _=>HS.out _ Hv1.out) ?_
    clear hK K
    try simp only [Act.put]
    refine tkG 7 (HS.out _ Hv1.out) ?_
    refine wpAnyG_done (by kernel_rfl) ?_ _
    clear hHeld
    try go_simp
    dsimp only [onlyN]
    go_wp2_with fail
    refine ⟨_,results_tmp rfl _ _ _,?_⟩
    exact Hpost.out
   ·rw [hk] at d0
    have hkn2:t.kids.length=2:=by rw [hk] at hkk;have:kidsOf 10=2:=rfl;omega
    obtain ⟨a,b,hab⟩:∃ a b,t.kids=[a,b]:=by
     match hkk2:t.kids,hkn2 with
     | [a,b],_=>exact ⟨a,b,rfl⟩
    obtain ⟨A,hA⟩:∃ A,A=whereT (nameRow names (P++L)) P.length n a:=⟨_,rfl⟩
    have HlA:Hid (A.length=n):=Lib.hid (hA ▸ Hlen.out a (by rw [hab];simp))
    obtain ⟨r,c,g0,hsl,hrl,r0,B0⟩:=HO'.out.at (i:=0) (by omega) (x:=A) (by rw [Htr.out,hab,hA];rfl)
    obtain ⟨B,hB⟩:∃ B,B=whereT (nameRow names (P++L)) P.length n b:=⟨_,rfl⟩
    have HlB:Hid (B.length=n):=Lib.hid (hB ▸ Hlen.out b (by rw [hab];simp))
    obtain ⟨r2,c2,g1,hsl2,_,r1,B1⟩:=HO'.out.at (i:=1) (by omega) (x:=B) (by rw [Htr.out,hab,hB];rfl)
    rw [hsl] at hsl2
    cases hsl2
    have HB1:=Lib.hid B1
    have htr2:tr=[A,B]:=by rw [Htr.out,hab,hA,hB];rfl
    clear B1 hB
    subst hsl
    have HB0:=Lib.hid B0
    have HS:Hid (∀ w',Chg Nob wr w'→w'.cell? ⟨w.heap.size,0,none⟩=some (.pointer (some ⟨tb,0,none⟩))∧w'.cell? ⟨w.heap.size+2,0,none⟩=some (.slice (some ⟨r,0,none⟩) t.kids.length c)∧w'.cell? ⟨r,0,none⟩=some (.slice (some ⟨g0,0,none⟩) n n)∧w'.cell? ⟨r,1,none⟩=some (.slice (some ⟨g1,0,none⟩) n n)):=(show ∀ w',Chg Nob wr w'→_ from fun w' h=>⟨h.cell' e0 (fun e=>e),h.cell' bx (fun e=>e),h.cell' r0 (fun e=>e),h.cell' r1 (fun e=>e)⟩)
    have hk01:(0:Int) < (t.kids.length:Int):=by omega
    have hk11:(1:Int) < (t.kids.length:Int):=by omega
    rw [htr2] at Hwt
    clear B0 hA htr2 hab hrl
    have hl:List.zipWith (fun x y=>!x || y) A B=whereT (nameRow names (P++L)) P.length n t:=by rw [Hwt.out,hk];rfl
    go_wp2_with fail
    refine wp_region_free_N (fun _=>true) (fun w'=>w'.cell? ⟨w.heap.size,0,none⟩=some (.pointer (some ⟨tb,0,none⟩))∧w'.cell? ⟨w.heap.size+2,0,none⟩=some (.slice (some ⟨r,0,none⟩) t.kids.length c)∧w'.cell? ⟨r,0,none⟩=some (.slice (some ⟨g0,0,none⟩) n n)∧w'.cell? ⟨r,1,none⟩=some (.slice (some ⟨g1,0,none⟩) n n)) (by kernel_rfl) ⟨e0,bx,r0,r1⟩ (fun hHeld=>?_)
    refine tkG 0 hHeld ?_
    refine tkG 1 hHeld ?_
    refine tkG 2 hHeld ?_
    refine tkG 3 hHeld ?_
    refine tkG 4 hHeld ?_
    refine tkG 5 hHeld ?_
    refine rdG 6 fun K hK=>?_
    go_simp
    (with_reducible refine (Hboth.out _ _ _ _ _ 108 (fun x y=>!x || y) (HB0.out.chg ((Chg.refl Nob wr).drew) (fun e=>e)) (HB1.out.chg ((Chg.refl Nob wr).drew) (fun e=>e)) HlA.out HlB.out (enters_of Tryz.func108 (by kernel_rfl) rfl) (fun x y W=>imp_b_any x y W)).mono ?_)
    rintro e v1 ⟨hc5,g51,hg5,rfl,hb5⟩
    have Hv1:Hid (Chg Nob wr v1):=Lib.hid (((Chg.refl Nob wr).drew).trans1 hc5)
    have Hpost:=Lib.hid (Hfin.out _ _ _ (hl) Hv1.out (by have h1:=((Chg.refl Nob wr).drew).size;omega) hb5)
    clear hc5 hg5 hb5
    refine hK.out _ _ (fun _=>HS.out _ Hv1.out) ?_
    clear hK K
    try simp only [Act.put]
    refine tkG 7 (HS.out _ Hv1.out) ?_
    refine wpAnyG_done (by kernel_rfl) ?_ _
    clear hHeld
    try go_simp
    dsimp only [onlyN]
    go_wp2_with fail
    refine ⟨_,results_tmp rfl _ _ _,?_⟩
    exact Hpost.out
   ·rw [hk] at d0
    have hkn2:t.kids.length=2:=by rw [hk] at hkk;have:kidsOf 11=2:=rfl;omega
    obtain ⟨a,b,hab⟩:∃ a b,t.kids=[a,b]:=by
     match hkk2:t.kids,hkn2 with
     | [a,b],_=>exact ⟨a,b,rfl⟩
    obtain ⟨A,hA⟩:∃ A,A=whereT (nameRow names (P++L)) P.length n a:=⟨_,rfl⟩
    have HlA:Hid (A.length=n):=Lib.hid (hA ▸ Hlen.out a (by rw [hab];simp))
    obtain ⟨r,c,g0,hsl,hrl,r0,B0⟩:=HO'.out.at (i:=0) (by omega) (x:=A) (by rw [Htr.out,hab,hA];rfl)
    obtain ⟨B,hB⟩:∃ B,B=whereT (nameRow names (P++L)) P.length n b:=⟨_,rfl⟩
    have HlB:Hid (B.length=n):=Lib.hid (hB ▸ Hlen.out b (by rw [hab];simp))
    obtain ⟨r2,c2,g1,hsl2,_,r1,B1⟩:=HO'.out.at (i:=1) (by omega) (x:=B) (by rw [Htr.out,hab,hB];rfl)
    rw [hsl] at hsl2
    cases hsl2
    have HB1:=Lib.hid B1
    have htr2:tr=[A,B]:=by rw [Htr.out,hab,hA,hB];rfl
    clear B1 hB
    subst hsl
    have HB0:=Lib.hid B0
    have HS:Hid (∀ w',Chg Nob wr w'→w'.cell? ⟨w.heap.size,0,none⟩=some (.pointer (some ⟨tb,0,none⟩))∧w'.cell? ⟨w.heap.size+2,0,none⟩=some (.slice (some ⟨r,0,none⟩) t.kids.length c)∧w'.cell? ⟨r,0,none⟩=some (.slice (some ⟨g0,0,none⟩) n n)∧w'.cell? ⟨r,1,none⟩=some (.slice (some ⟨g1,0,none⟩) n n)):=(show ∀ w',Chg Nob wr w'→_ from fun w' h=>⟨h.cell' e0 (fun e=>e),h.cell' bx (fun e=>e),h.cell' r0 (fun e=>e),h.cell' r1 (fun e=>e)⟩)
    have hk01:(0:Int) < (t.kids.length:Int):=by omega
    have hk11:(1:Int) < (t.kids.length:Int):=by omega
    rw [htr2] at Hwt
    clear B0 hA htr2 hab hrl
    have hl:List.zipWith (fun x y=>x==y) A B=whereT (nameRow names (P++L)) P.length n t:=by rw [Hwt.out,hk];rfl
    go_wp2_with fail
    refine wp_region_free_N (fun _=>true) (fun w'=>w'.cell? ⟨w.heap.size,0,none⟩=some (.pointer (some ⟨tb,0,none⟩))∧w'.cell? ⟨w.heap.size+2,0,none⟩=some (.slice (some ⟨r,0,none⟩) t.kids.length c)∧w'.cell? ⟨r,0,none⟩=some (.slice (some ⟨g0,0,none⟩) n n)∧w'.cell? ⟨r,1,none⟩=some (.slice (some ⟨g1,0,none⟩) n n)) (by kernel_rfl) ⟨e0,bx,r0,r1⟩ (fun hHeld=>?_)
    refine tkG 0 hHeld ?_
    refine tkG 1 hHeld ?_
    refine tkG 2 hHeld ?_
    refine tkG 3 hHeld ?_
    refine tkG 4 hHeld ?_
    refine tkG 5 hHeld ?_
    refine rdG 6 fun K hK=>?_
    go_simp
    (with_reducible refine (Hboth.out _ _ _ _ _ 109 (fun x y=>x==y) (HB0.out.chg ((Chg.refl Nob wr).drew) (fun e=>e)) (HB1.out.chg ((Chg.refl Nob wr).drew) (fun e=>e)) HlA.out HlB.out (enters_of Tryz.func109 (by kernel_rfl) rfl) (fun x y W=>iff_b_any x y W)).mono ?_)
    rintro e v1 ⟨hc5,g51,hg5,rfl,hb5⟩
    have Hv1:Hid (Chg Nob wr v1):=Lib.hid (((Chg.refl Nob wr).drew).trans1 hc5)
    have Hpost:=Lib.hid (Hfin.out _ _ _ (hl) Hv1.out (by have h1:=((Chg.refl Nob wr).drew).size;omega) hb5)
    clear hc5 hg5 hb5
    refine hK.out _ _ (fun _=>HS.out _ Hv1.out) ?_
    clear hK K
    try simp only [Act.put]
    refine tkG 7 (HS.out _ Hv1.out) ?_
    refine wpAnyG_done (by kernel_rfl) ?_ _
    clear hHeld
    try go_simp
    dsimp only [onlyN]
    go_wp2_with fail
    refine ⟨_,results_tmp rfl _ _ _,?_⟩
    exact Hpost.out
   ·rw [hk] at d0
    have hkn2:t.kids.length=2:=by rw [hk] at hkk;have:kidsOf 12=2:=rfl;omega
    obtain ⟨a,b,hab⟩:∃ a b,t.kids=[a,b]:=by
     match hkk2:t.kids,hkn2 with
     | [a,b],_=>exact ⟨a,b,rfl⟩
    obtain ⟨A,hA⟩:∃ A,A=whereT (nameRow names (P++L)) P.length n a:=⟨_,rfl⟩
    have HlA:Hid (A.length=n):=Lib.hid (hA ▸ Hlen.out a (by rw [hab];simp))
    obtain ⟨r,c,g0,hsl,hrl,r0,B0⟩:=HO'.out.at (i:=0) (by omega) (x:=A) (by rw [Htr.out,hab,hA];rfl)
    obtain ⟨B,hB⟩:∃ B,B=whereT (nameRow names (P++L)) P.length n b:=⟨_,rfl⟩
    have HlB:Hid (B.length=n):=Lib.hid (hB ▸ Hlen.out b (by rw [hab];simp))
    obtain ⟨r2,c2,g1,hsl2,_,r1,B1⟩:=HO'.out.at (i:=1) (by omega) (x:=B) (by rw [Htr.out,hab,hB];rfl)
    rw [hsl] at hsl2
    cases hsl2
    have HB1:=Lib.hid B1
    have htr2:tr=[A,B]:=by rw [Htr.out,hab,hA,hB];rfl
    clear B1 hB
    subst hsl
    have HB0:=Lib.hid B0
    have HS:Hid (∀ w',Chg Nob wr w'→w'.cell? ⟨w.heap.size,0,none⟩=some (.pointer (some ⟨tb,0,none⟩))∧w'.cell? ⟨w.heap.size+2,0,none⟩=some (.slice (some ⟨r,0,none⟩) t.kids.length c)∧w'.cell? ⟨r,0,none⟩=some (.slice (some ⟨g0,0,none⟩) n n)∧w'.cell? ⟨r,1,none⟩=some (.slice (some ⟨g1,0,none⟩) n n)):=(show ∀ w',Chg Nob wr w'→_ from fun w' h=>⟨h.cell' e0 (fun e=>e),h.cell' bx (fun e=>e),h.cell' r0 (fun e=>e),h.cell' r1 (fun e=>e)⟩)
    have hk01:(0:Int) < (t.kids.length:Int):=by omega
    have hk11:(1:Int) < (t.kids.length:Int):=by omega
    rw [htr2] at Hwt
    clear B0 hA htr2 hab hrl
    have hl:fixL P.length n B A false=whereT (nameRow names (P++L)) P.length n t:=by rw [Hwt.out,hk];rfl
    go_wp2_with fail
    refine wp_region_free_N (fun _=>true) (fun w'=>w'.cell? ⟨w.heap.size,0,none⟩=some (.pointer (some ⟨tb,0,none⟩))∧w'.cell? ⟨w.heap.size+2,0,none⟩=some (.slice (some ⟨r,0,none⟩) t.kids.length c)∧w'.cell? ⟨r,0,none⟩=some (.slice (some ⟨g0,0,none⟩) n n)∧w'.cell? ⟨r,1,none⟩=some (.slice (some ⟨g1,0,none⟩) n n)) (by kernel_rfl) ⟨e0,bx,r0,r1⟩ (fun hHeld=>?_)
    refine tkG 0 hHeld ?_
    refine tkG 1 hHeld ?_
    refine tkG 2 hHeld ?_
    refine tkG 3 hHeld ?_
    refine tkG 4 hHeld ?_
    refine tkG 5 hHeld ?_
    refine tkG 6 hHeld ?_
    refine rdG 7 fun K hK=>?_
    go_simp
    (with_reducible refine (Hfix.out _ _ _ _ _ false ((Chg.refl Nob wr).drew) (HB1.out.chg ((Chg.refl Nob wr).drew) (fun e=>e)) (HB0.out.chg ((Chg.refl Nob wr).drew) (fun e=>e)) HlB.out HlA.out).mono ?_)
    rintro e v1 ⟨hc5,g51,hg5,rfl,hb5⟩
    have Hv1:Hid (Chg Nob wr v1):=Lib.hid (((Chg.refl Nob wr).drew).trans1 hc5)
    have Hpost:=Lib.hid (Hfin.out _ _ _ (hl) Hv1.out (by have h1:=((Chg.refl Nob wr).drew).size;omega) hb5)
    clear hc5 hg5 hb5
    refine hK.out _ _ (fun _=>HS.out _ Hv1.out) ?_
    clear hK K
    try simp only [Act.put]
    refine tkG 8 (HS.out _ Hv1.out) ?_
    refine wpAnyG_done (by kernel_rfl) ?_ _
    clear hHeld
    try go_simp
    dsimp only [onlyN]
    go_wp2_with fail
    refine ⟨_,results_tmp rfl _ _ _,?_⟩
    exact Hpost.out
   ·rw [hk] at d0
    have hkn2:t.kids.length=2:=by rw [hk] at hkk;have:kidsOf 13=2:=rfl;omega
    obtain ⟨a,b,hab⟩:∃ a b,t.kids=[a,b]:=by
     match hkk2:t.kids,hkn2 with
     | [a,b],_=>exact ⟨a,b,rfl⟩
    obtain ⟨A,hA⟩:∃ A,A=whereT (nameRow names (P++L)) P.length n a:=⟨_,rfl⟩
    have HlA:Hid (A.length=n):=Lib.hid (hA ▸ Hlen.out a (by rw [hab];simp))
    obtain ⟨r,c,g0,hsl,hrl,r0,B0⟩:=HO'.out.at (i:=0) (by omega) (x:=A) (by rw [Htr.out,hab,hA];rfl)
    obtain ⟨B,hB⟩:∃ B,B=whereT (nameRow names (P++L)) P.length n b:=⟨_,rfl⟩
    have HlB:Hid (B.length=n):=Lib.hid (hB ▸ Hlen.out b (by rw [hab];simp))
    obtain ⟨r2,c2,g1,hsl2,_,r1,B1⟩:=HO'.out.at (i:=1) (by omega) (x:=B) (by rw [Htr.out,hab,hB];rfl)
    rw [hsl] at hsl2
    cases hsl2
    have HB1:=Lib.hid B1
    have htr2:tr=[A,B]:=by rw [Htr.out,hab,hA,hB];rfl
    clear B1 hB
    subst hsl
    have HB0:=Lib.hid B0
    have HS:Hid (∀ w',Chg Nob wr w'→w'.cell? ⟨w.heap.size,0,none⟩=some (.pointer (some ⟨tb,0,none⟩))∧w'.cell? ⟨w.heap.size+2,0,none⟩=some (.slice (some ⟨r,0,none⟩) t.kids.length c)∧w'.cell? ⟨r,0,none⟩=some (.slice (some ⟨g0,0,none⟩) n n)∧w'.cell? ⟨r,1,none⟩=some (.slice (some ⟨g1,0,none⟩) n n)):=(show ∀ w',Chg Nob wr w'→_ from fun w' h=>⟨h.cell' e0 (fun e=>e),h.cell' bx (fun e=>e),h.cell' r0 (fun e=>e),h.cell' r1 (fun e=>e)⟩)
    have hk01:(0:Int) < (t.kids.length:Int):=by omega
    have hk11:(1:Int) < (t.kids.length:Int):=by omega
    rw [htr2] at Hwt
    clear B0 hA htr2 hab hrl
    have hl:fixL P.length n (List.zipWith (fun x y=>x&&y) A B) B true=whereT (nameRow names (P++L)) P.length n t:=by rw [Hwt.out,hk];rfl
    go_wp2_with fail
    refine wp_region_free_N (fun _=>true) (fun w'=>w'.cell? ⟨w.heap.size,0,none⟩=some (.pointer (some ⟨tb,0,none⟩))∧w'.cell? ⟨w.heap.size+2,0,none⟩=some (.slice (some ⟨r,0,none⟩) t.kids.length c)∧w'.cell? ⟨r,0,none⟩=some (.slice (some ⟨g0,0,none⟩) n n)∧w'.cell? ⟨r,1,none⟩=some (.slice (some ⟨g1,0,none⟩) n n)) (by kernel_rfl) ⟨e0,bx,r0,r1⟩ (fun hHeld=>?_)
    refine tkG 0 hHeld ?_
    refine tkG 1 hHeld ?_
    refine tkG 2 hHeld ?_
    refine tkG 3 hHeld ?_
    refine tkG 4 hHeld ?_
    refine tkG 5 hHeld ?_
    refine tkG 6 hHeld ?_
    refine tkG 8 hHeld ?_
    refine tkG 9 hHeld ?_
    refine tkG 10 hHeld ?_
    refine rdG 7 fun K hK=>?_
    go_simp
    (with_reducible refine (Hboth.out _ _ _ _ _ 106 (fun x y=>x&&y) (HB0.out.chg ((Chg.refl Nob wr).drew) (fun e=>e)) (HB1.out.chg ((Chg.refl Nob wr).drew) (fun e=>e)) HlA.out HlB.out (enters_of Tryz.func106 (by kernel_rfl) rfl) (fun x y W=>tand_any x y W)).mono ?_)
    rintro e v1 ⟨hc5,g51,hg5,rfl,hb5⟩
    have Hv1:Hid (Chg Nob wr v1):=Lib.hid (((Chg.refl Nob wr).drew).trans1 hc5)
    have Hb5:=Lib.hid hb5
    clear hc5 hg5 hb5
    refine hK.out _ _ (fun _=>HS.out _ Hv1.out) ?_
    clear hK K
    try simp only [Act.put]
    refine rdG 11 fun K hK=>?_
    go_simp
    (with_reducible refine (Hfix.out _ _ _ _ _ true (Hv1.out) Hb5.out (HB1.out.chg (Hv1.out) (fun e=>e)) (by rw [List.length_zipWith,HlA.out,HlB.out,Nat.min_self]) HlB.out).mono ?_)
    rintro e v2 ⟨hc5,g52,hg5,rfl,hb5⟩
    have Hv2:Hid (Chg Nob wr v2):=Lib.hid ((Hv1.out).trans1 hc5)
    have Hpost:=Lib.hid (Hfin.out _ _ _ (hl) Hv2.out (by have h1:=(Hv1.out).size;omega) hb5)
    clear hc5 hg5 hb5
    refine hK.out _ _ (fun _=>HS.out _ Hv2.out) ?_
    clear hK K
    try simp only [Act.put]
    refine tkG 12 (HS.out _ Hv2.out) ?_
    refine wpAnyG_done (by kernel_rfl) ?_ _
    clear hHeld
    try go_simp
    dsimp only [onlyN]
    go_wp2_with fail
    refine ⟨_,results_tmp rfl _ _ _,?_⟩
    exact Hpost.out
   ·rw [hk] at d0
    have hkn2:t.kids.length=2:=by rw [hk] at hkk;have:kidsOf 14=2:=rfl;omega
    obtain ⟨a,b,hab⟩:∃ a b,t.kids=[a,b]:=by
     match hkk2:t.kids,hkn2 with
     | [a,b],_=>exact ⟨a,b,rfl⟩
    obtain ⟨A,hA⟩:∃ A,A=whereT (nameRow names (P++L)) P.length n a:=⟨_,rfl⟩
    have HlA:Hid (A.length=n):=Lib.hid (hA ▸ Hlen.out a (by rw [hab];simp))
    obtain ⟨r,c,g0,hsl,hrl,r0,B0⟩:=HO'.out.at (i:=0) (by omega) (x:=A) (by rw [Htr.out,hab,hA];rfl)
    obtain ⟨B,hB⟩:∃ B,B=whereT (nameRow names (P++L)) P.length n b:=⟨_,rfl⟩
    have HlB:Hid (B.length=n):=Lib.hid (hB ▸ Hlen.out b (by rw [hab];simp))
    obtain ⟨r2,c2,g1,hsl2,_,r1,B1⟩:=HO'.out.at (i:=1) (by omega) (x:=B) (by rw [Htr.out,hab,hB];rfl)
    rw [hsl] at hsl2
    cases hsl2
    have HB1:=Lib.hid B1
    have htr2:tr=[A,B]:=by rw [Htr.out,hab,hA,hB];rfl
    clear B1 hB
    subst hsl
    have HB0:=Lib.hid B0
    have HS:Hid (∀ w',Chg Nob wr w'→w'.cell? ⟨w.heap.size,0,none⟩=some (.pointer (some ⟨tb,0,none⟩))∧w'.cell? ⟨w.heap.size+2,0,none⟩=some (.slice (some ⟨r,0,none⟩) t.kids.length c)∧w'.cell? ⟨r,0,none⟩=some (.slice (some ⟨g0,0,none⟩) n n)∧w'.cell? ⟨r,1,none⟩=some (.slice (some ⟨g1,0,none⟩) n n)):=(show ∀ w',Chg Nob wr w'→_ from fun w' h=>⟨h.cell' e0 (fun e=>e),h.cell' bx (fun e=>e),h.cell' r0 (fun e=>e),h.cell' r1 (fun e=>e)⟩)
    have hk01:(0:Int) < (t.kids.length:Int):=by omega
    have hk11:(1:Int) < (t.kids.length:Int):=by omega
    rw [htr2] at Hwt
    clear B0 hA htr2 hab hrl
    have hl:fixL P.length n B A true=whereT (nameRow names (P++L)) P.length n t:=by rw [Hwt.out,hk];rfl
    go_wp2_with fail
    refine wp_region_free_N (fun _=>true) (fun w'=>w'.cell? ⟨w.heap.size,0,none⟩=some (.pointer (some ⟨tb,0,none⟩))∧w'.cell? ⟨w.heap.size+2,0,none⟩=some (.slice (some ⟨r,0,none⟩) t.kids.length c)∧w'.cell? ⟨r,0,none⟩=some (.slice (some ⟨g0,0,none⟩) n n)∧w'.cell? ⟨r,1,none⟩=some (.slice (some ⟨g1,0,none⟩) n n)) (by kernel_rfl) ⟨e0,bx,r0,r1⟩ (fun hHeld=>?_)
    refine tkG 0 hHeld ?_
    refine tkG 1 hHeld ?_
    refine tkG 2 hHeld ?_
    refine tkG 3 hHeld ?_
    refine tkG 4 hHeld ?_
    refine tkG 5 hHeld ?_
    refine tkG 6 hHeld ?_
    refine rdG 7 fun K hK=>?_
    go_simp
    (with_reducible refine (Hfix.out _ _ _ _ _ true ((Chg.refl Nob wr).drew) (HB1.out.chg ((Chg.refl Nob wr).drew) (fun e=>e)) (HB0.out.chg ((Chg.refl Nob wr).drew) (fun e=>e)) HlB.out HlA.out).mono ?_)
    rintro e v1 ⟨hc5,g51,hg5,rfl,hb5⟩
    have Hv1:Hid (Chg Nob wr v1):=Lib.hid (((Chg.refl Nob wr).drew).trans1 hc5)
    have Hpost:=Lib.hid (Hfin.out _ _ _ (hl) Hv1.out (by have h1:=((Chg.refl Nob wr).drew).size;omega) hb5)
    clear hc5 hg5 hb5
    refine hK.out _ _ (fun _=>HS.out _ Hv1.out) ?_
    clear hK K
    try simp only [Act.put]
    refine tkG 8 (HS.out _ Hv1.out) ?_
    refine wpAnyG_done (by kernel_rfl) ?_ _
    clear hHeld
    try go_simp
    dsimp only [onlyN]
    go_wp2_with fail
    refine ⟨_,results_tmp rfl _ _ _,?_⟩
    exact Hpost.out
theorem where_any (hkn:names.length≤60):∀ t:T,NamesIn names t→mayT t=true→∀ (R:Nat→Prop) (w:World) (v:Value),(∀ b,R b→b < w.heap.size)→IsTree R w t v→TabW w tb nv ap cp al cl P L names n→Calls Tryz.prog 59 #[.pointer (some ⟨tb,0,none⟩),v] w (WhPost n (whereT (nameRow names (P++L)) P.length n t) w):=by
 refine kid_induct ?_
 intro t ih hin hmay R w v hR hv hT
 exact where_step hkn hin hmay (fun u hu=>ih u hu (hin.kid hu) (may_kids hmay u hu)) hR hv hT
end
end Go.Proofs.YtkgfdgfhpdhhaaaGreat
