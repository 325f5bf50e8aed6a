/- Parts of the walks and of the plain theory, the first: The maker of automata in the world: its block, its states, its map. Conditions: as each theorem states. -/
import Derived.Test.YtkgfdgfhpdhhaaaGreatT15
import Derived.Test.YtkgfdgfhpdhhaaaGreatT17
import Derived.Maps.OwnSet
import Derived.Maps.OwnOps
namespace Go.Proofs.YtkgfdgfhpdhhaaaGreat
open Go.ChangeShapes Go.WideShapes Go.RowKit Go.Maps Go.WideMaps
attribute [local go_sem] Oper.semAt_some
abbrev StR:=Sti × Value × List MvS
def cellsR (x:StR):List Value:=[.bool x.1.fin,x.2.1]
structure MkS where
 sts:List Sti
 num:List (List UInt8 × Nat)
def NumIs (dm:DataW Unit) (num:List (List UInt8 × Nat)):Prop :=
 IsMap dm∧∀ k:List UInt8,has dm (.string k)=(num.lookup k).isSome∧∀ n,num.lookup k=some n→dm.atKey (.string k) (.lit (.int .i64 0)) = .lit (.int .i64 (n:Int))
structure MkIs (W:World) (D:Nat→Prop) (mb:Nat) (nv:Value) (s:MkS) (mv:Int):Prop where
 lt:∀ k,D k→k < W.heap.size
 ty:∀ k,D k→∀ cs m,W.heap[k]?≠some (.cells cs 3 m)
 few:s.num.length≤s.sts.length∧s.sts.length≤5000
 cells:∃ sv pb lo,∃ xs:List StR,∃ dm:DataW Unit,W.heap[mb]? = some (.cells #[nv,sv,.map (some pb),.int .i64 mv] 62 (0,0))∧D mb∧D pb ∧
  W.ownsMap Tryz.prog 9 (plainElem Tryz.prog 3) pb s.num.length dm∧NumIs dm s.num ∧
  W.ownsRow lo 69 2 sv s.sts.length (xs.flatMap cellsR)∧xs.map (·.1)=s.sts∧(∀ q,sv.ownBlock=some q→D q) ∧
  ∀ x∈xs,(∃ l,MOwn W l x.2.1 x.1.moves x.2.2)∧(∀ q,x.2.1.ownBlock=some q→D q)∧x.1.moves.length≤10000
theorem ownsRow_zero {W:World} {lo:Nat} {e:TypeId} {z:Nat} {v:Value} {n:Nat} {xs:List Value} (h:W.ownsRow lo e z v n xs):W.ownsRow 0 e z v n xs :=
 ⟨h.1,h.2.imp id (fun ⟨g,cap,cur,e,_,rest⟩=>⟨g,cap,cur,e,Nat.zero_le _,rest⟩)⟩
theorem ownsMap_chg {S:Nat→Prop} {W W':World} {k b n:Nat} {R:Value→Option (DataW Unit × List MemPlace)} {dm:DataW Unit} (h:W.ownsMap Tryz.prog k R b n dm) (hc:Chg S W W') (hn:¬ S b):W'.ownsMap Tryz.prog k R b n dm:=by
 obtain ⟨es,clock,hb,F,hs,hD⟩:=h
 exact ⟨es,clock,hc.at hb hn,F,hs,hD⟩
theorem MkIs.keep {S D:Nat→Prop} {W W':World} {mb:Nat} {nv:Value} {s:MkS} {mv:Int} (h:MkIs W D mb nv s mv) (hc:Chg S W W') (hd:∀ q,S q→¬ D q) (hs:∀ q,S q→∀ cs m,W.heap[q]?≠some (.cells cs 3 m)):MkIs W' D mb nv s mv:=by
 obtain ⟨h1,h2,h3,sv,pb,lo,xs,dm,hb,dmb,dpb,hm,hnum,hrow,hfst,hown,hx⟩:=h
 have hD:∀ q,D q→¬ S q:=fun q hq hs=>hd q hs hq
 refine ⟨fun k hk=>Nat.lt_of_lt_of_le (h1 k hk) hc.size,fun k hk cs m e=>h2 k hk cs m (by rw [← hc.block k (h1 k hk) (hD k hk)];exact e),h3,sv,pb,lo,xs,dm,hc.at hb (hD _ dmb),dmb,dpb,ownsMap_chg hm hc (hD _ dpb),hnum,ownsRow_chg hrow hc (fun q hq=>hD q (hown q hq)),hfst,hown,fun x hxm=>?_⟩
 obtain ⟨⟨l,ho⟩,hb,hl⟩:=hx x hxm
 exact ⟨⟨l,ho.typed hc (fun q hq=>hD q (hb q hq)) hs⟩,hb,hl⟩
theorem MkIs.nob {D:Nat→Prop} {W W':World} {mb:Nat} {nv:Value} {s:MkS} {mv:Int} (h:MkIs W D mb nv s mv) (hc:Chg Nob W W'):MkIs W' D mb nv s mv:=h.keep hc (fun _ e=>e.elim) (fun _ e=>e.elim)
theorem MkIs.moves {D:Nat→Prop} {W:World} {mb:Nat} {nv:Value} {s:MkS} {mv:Int} (h:MkIs W D mb nv s mv) (mv':Int):MkIs (W.setCell ⟨mb,3,none⟩ (.int .i64 mv')) D mb nv s mv':=by
 have hlt:=h.lt
 obtain ⟨h1,h2,h3,sv,pb,lo,xs,dm,hb,dmb,dpb,hm,hnum,hrow,hfst,hown,hx⟩:=h
 have hc:Chg (At1 mb) W (W.setCell ⟨mb,3,none⟩ (.int .i64 mv')):=(Chg.refl (At1 mb) W).setCell (p:=⟨mb,3,none⟩) (fun _=>rfl) _
 have hne:∀ q,(∃ cs t m,W.heap[q]? = some (.cells cs t m)∧t≠62)∨(∃ es c,W.heap[q]? = some (.map es c))→¬ At1 mb q:=by
  intro q h e
  have e:q=mb:=e
  subst e
  rcases h with ⟨cs,t,m,h,ht⟩ | ⟨es,c,h⟩
  ·rw [hb] at h;simp at h;exact ht h.2.1.symm
  ·rw [hb] at h;simp at h
 have h62:∀ q,At1 mb q→∀ cs m,W.heap[q]?≠some (.cells cs 3 m):=by
  intro q e cs m h
  have e:q=mb:=e
  subst e
  rw [hb] at h;simp at h
 refine ⟨fun k hk=>Nat.lt_of_lt_of_le (h1 k hk) hc.size,fun k hk cs m e=>?_,h3,sv,pb,lo,xs,dm,?_,dmb,dpb,ownsMap_chg hm hc ?_,hnum,ownsRow_chg hrow hc ?_,hfst,hown,fun x hxm=>?_⟩
 ·by_cases hk2:k=mb
  ·subst hk2
   have:(W.setCell ⟨k,3,none⟩ (.int .i64 mv')).heap[k]? = some (.cells #[nv,sv,.map (some pb),.int .i64 mv'] 62 (0,0)):=by
    simp [World.setCell,Array.getElem?_modify,hb]
   rw [this] at e;simp at e
  ·exact h2 k hk cs m (by rw [← hc.block k (h1 k hk) hk2];exact e)
 ·simp [World.setCell,Array.getElem?_modify,hb]
 ·obtain ⟨es,clock,hb,_⟩:=hm
  exact hne _ (.inr ⟨es,clock,hb⟩)
 ·intro q hq
  obtain ⟨cs,m,hb⟩:=ownsRow_block hrow q hq
  exact hne _ (.inl ⟨cs,69,m,hb,by decide⟩)
 ·obtain ⟨⟨l,ho⟩,hbx,hl⟩:=hx x hxm
  refine ⟨⟨l,ho.typed hc (fun q hq=>?_) h62⟩,hbx,hl⟩
  obtain ⟨cs,m,hb⟩:=ownsRow_block ho.own q hq
  exact hne _ (.inl ⟨cs,75,m,hb,by decide⟩)
theorem Tryz.info69m:(Tryz.prog.info? 69).map (fun i=>(i.zero,i.size,i.bytes))=some (some (.agg #[.bool false,.slice none 0 0]),2,32):=by kernel_rfl
theorem info69_parts:∃ i,Tryz.prog.info? 69=some i∧i.zero=some (.agg #[.bool false,.slice none 0 0])∧i.size=2∧i.bytes=32:=by
 have h:=Tryz.info69m
 cases hi:Tryz.prog.info? 69 with
 | none=>rw [hi] at h;simp at h
 | some i=>rw [hi] at h;simp at h;exact ⟨i,rfl,h.1,h.2.1,h.2.2⟩
theorem append69 {B:Nat} {w:World} {v:Value} {n:Nat} {xs:List Value} {x y:Value} {g:Nat} {c:Nat} (h:w.ownsRow B 69 2 v n xs) (hB:B≤w.heap.size) (hn:n≤100000000) (hx:x.oneCell'=true) (hy:y.oneCell'=true) (hg:w.heap[g]? = some (.cells #[x,y] c (0,0))) :
 ∃ g' cap w',(Builtin.append_ #[36,36] 36 #[v,.slice (some ⟨g,0,none⟩) 1 1]).run Tryz.prog w = .ok (.slice (some ⟨g',0,none⟩) (n+1) cap) w'∧w'.ownsRow B 69 2 (.slice (some ⟨g',0,none⟩) (n+1) cap) (n+1) (xs++[x,y])∧w.grownBy w' v.ownBlock∧(v.ownBlock=some g'∨g'=w.heap.size)∧g' < w'.heap.size:=by
 obtain ⟨i,hi,hz,hs,hb⟩:=info69_parts
 exact run_append_lies (P:=Tryz.prog) w 36 36 B 69 i _ 2 32 Tryz.underlying36 hi hz hs hb rfl (by decide) v n _ h ⟨g,0,none⟩ 1 1 [x,y] rfl
  (fun j u hj=>by rw [Go.WideShapes.add_plain,Nat.zero_add];exact cell_row hg j (by simpa using hj)) (by intro u hu;simp at hu;rcases hu with rfl | rfl <;> assumption) (by decide) (by unfold maxLen;omega) (by omega) hB _ rfl
theorem MkIs.push {D:Nat→Prop} {W:World} {mb:Nat} {nv:Value} {s:MkS} {mv:Int} (h:MkIs W D mb nv s mv) (hlen:s.sts.length≤4999) {lo:Nat} {v:Value} {ms:List Mvi} {ys:List MvS} (hv:MOwn W lo v ms ys) (hml:ms.length≤10000) (fin:Bool) :
 ∃ ao c,W.cell? ⟨mb,1,none⟩=some (.slice ao s.sts.length c)∧∃ sl' W1,(Builtin.append_ #[36,36] 36 #[.slice ao s.sts.length c,.slice (some ⟨W.heap.size,0,none⟩) 1 1]).run Tryz.prog (W.alloc (.cells #[.bool fin,v] 69)) = .ok sl' W1 ∧
   (∃ g c',sl' = .slice (some ⟨g,0,none⟩) (s.sts.length+1) c')∧W1.cell? ⟨mb,1,none⟩=some (.slice ao s.sts.length c)∧W1.frozen? ⟨mb,1,none⟩=false∧Chg D W W1∧Chg D W (W1.setCell ⟨mb,1,none⟩ sl')∧∃ D',MkIs (W1.setCell ⟨mb,1,none⟩ sl') D' mb nv ⟨s.sts++[⟨fin,ms⟩],s.num⟩ mv∧∀ q,D' q→D q∨W.heap.size≤q∨v.ownBlock=some q:=by
 obtain ⟨h1,h2,h3,sv,pb,lo2,xs,dm,hb,dmb,dpb,hm,hnum,hrow,hfst,hown,hx⟩:=h
 obtain ⟨ao,c,rfl⟩:=ownsRow_shape hrow
 have hA:Chg Nob W (W.alloc (.cells #[.bool fin,v] 69)):=(Chg.refl _ _).alloc _
 have hv1:v.oneCell'=true:=by obtain ⟨a,b,rfl⟩:=ownsRow_shape hv.own;rfl
 obtain ⟨g',cap,W1,hrun,hrow1,hgr,hlies,hg'⟩:=append69 (x:= .bool fin) (y:=v) (ownsRow_chg (ownsRow_zero hrow) hA (fun _ _ e=>e)) (Nat.zero_le _) (by omega) rfl hv1 (heap_alloc_new W (.cells #[.bool fin,v] 69))
 rw [World.size_alloc] at hlies
 have hc:Chg (fun q=>(Value.slice ao s.sts.length c).ownBlock=some q) W W1:=(hA.any (S:=fun q=>(Value.slice ao s.sts.length c).ownBlock=some q)).trans1 ((Chg.refl _ _).grown hgr (fun q hq _=>hq))
 have hk69:∀ q,(Value.slice ao s.sts.length c).ownBlock=some q→∃ cs m,W.heap[q]? = some (.cells cs 69 m):=ownsRow_block hrow
 have hb1:W1.heap[mb]? = some (.cells #[nv,.slice ao s.sts.length c,.map (some pb),.int .i64 mv] 62 (0,0)):=hc.at hb (fun e=>by obtain ⟨cs,m,e2⟩:=hk69 mb e;rw [hb] at e2;simp at e2)
 have hb2:∀ u,(W1.setCell ⟨mb,1,none⟩ u).heap[mb]? = some (.cells #[nv,u,.map (some pb),.int .i64 mv] 62 (0,0)):=fun u=>by simp [World.setCell,Array.getElem?_modify,hb1]
 have hcV:∀ u,Chg (fun q=>q=mb∨(Value.slice ao s.sts.length c).ownBlock=some q) W (W1.setCell ⟨mb,1,none⟩ u):=fun u=>(hc.mono (fun _ _ e=> .inr e)).setCell (fun _=> .inl rfl) u
 obtain ⟨sl',hsl⟩:∃ sl',sl'=Value.slice (some ⟨g',0,none⟩) (s.sts.length+1) cap:=⟨_,rfl⟩
 rw [← hsl] at hrun hrow1
 have hob:sl'.ownBlock=some g':=by rw [hsl];rfl
 obtain ⟨V,hV⟩:∃ V,V=W1.setCell ⟨mb,1,none⟩ sl':=⟨_,rfl⟩
 have hcV:=hcV sl'
 have hb2:=hb2 sl'
 rw [← hV] at hcV hb2
 have hne:∀ q,(∃ cs t m,W.heap[q]? = some (.cells cs t m)∧t≠62∧t≠69)∨(∃ es c,W.heap[q]? = some (.map es c))→¬ (q=mb∨(Value.slice ao s.sts.length c).ownBlock=some q):=by
  intro q h e
  rcases e with rfl | e
  ·rcases h with ⟨cs,t,m,h,ht,_⟩ | ⟨es,c,h⟩
   ·rw [hb] at h;simp at h;exact ht h.2.1.symm
   ·rw [hb] at h;simp at h
  ·obtain ⟨cs',m',e⟩:=hk69 q e
   rcases h with ⟨cs,t,m,h,_,ht⟩ | ⟨es,c,h⟩
   ·rw [e] at h;simp at h;exact ht h.2.1.symm
   ·rw [e] at h;simp at h
 have h3t:∀ q,(q=mb∨(Value.slice ao s.sts.length c).ownBlock=some q)→∀ cs m,W.heap[q]?≠some (.cells cs 3 m):=fun q e cs m h=>hne q (.inl ⟨cs,3,m,h,by decide,by decide⟩) e
 have hrowV:V.ownsRow 0 69 2 sl' (s.sts.length+1) (xs.flatMap cellsR++[.bool fin,v]):=by
  rw [hV]
  refine ownsRow_chg hrow1 ((Chg.refl (At1 mb) _).setCell (p:=⟨mb,1,none⟩) (fun _=>rfl) _) (fun q hq e=>?_)
  have e:q=mb:=e
  subst e
  obtain ⟨cs,m,e⟩:=ownsRow_block hrow1 q hq
  rw [hb1] at e;simp at e
 refine ⟨ao,c,(cell_row hb 1 rfl),sl',W1,hrun,⟨g',cap,hsl⟩,cell_row hb1 1 rfl,by simp [World.frozen?,hb1],hc.mono (fun q _ e=>hown q e),?_,?_⟩
 ·rw [← hV]
  exact hcV.mono (fun q _ e=>e.elim (fun e=>e ▸ dmb) (fun e=>hown q e))
 ·rw [← hV]
  have hvo:∀ q,v.ownBlock=some q→∃ cs m,W.heap[q]? = some (.cells cs 75 m):=ownsRow_block hv.own
  have hnsv:∀ q,(∃ cs t m,W.heap[q]? = some (.cells cs t m)∧t≠69)∨(∃ es c,W.heap[q]? = some (.map es c))→¬ (Value.slice ao s.sts.length c).ownBlock=some q:=by
   intro q h e
   obtain ⟨cs',m',e⟩:=hk69 q e
   rcases h with ⟨cs,t,m,h,ht⟩ | ⟨es,c,h⟩
   ·rw [e] at h;simp at h;exact ht h.2.1.symm
   ·rw [e] at h;simp at h
  have hpbm:∃ es c,W.heap[pb]? = some (.map es c):=by obtain ⟨es,clock,hb,_⟩:=hm;exact ⟨es,clock,hb⟩
  refine ⟨fun q=>(D q∧¬ (Value.slice ao s.sts.length c).ownBlock=some q)∨q=g'∨v.ownBlock=some q,⟨fun k hk=>?_,fun k hk cs m e=>?_,⟨by rw [List.length_append];have:=h3.1;show s.num.length≤s.sts.length+1;omega,by rw [List.length_append];show s.sts.length+1≤5000;omega⟩,sl',pb,0,xs++[(⟨fin,ms⟩,v,ys)],dm,hb2,.inl ⟨dmb,hnsv _ (.inl ⟨_,_,_,hb,by decide⟩)⟩,.inl ⟨dpb,hnsv _ (.inr hpbm)⟩,ownsMap_chg hm hcV (hne _ (.inr hpbm)),hnum,?_,?_,?_,?_⟩,?_⟩
  ·rcases hk with hk | rfl | hk
   ·exact Nat.lt_of_lt_of_le (h1 k hk.1) hcV.size
   ·exact (hrowV.lt _ hob).2
   ·exact Nat.lt_of_lt_of_le (hv.own.lt k hk).2 hcV.size
  ·rcases hk with hk | rfl | hk
   ·by_cases hkm:k=mb
    ·subst hkm;rw [hb2] at e;simp at e
    ·exact h2 k hk.1 cs m (by rw [← hcV.block k (h1 k hk.1) (fun e=>e.elim hkm hk.2)];exact e)
   ·obtain ⟨cs',m',e2⟩:=ownsRow_block hrowV k hob
    rw [e2] at e;simp at e
   ·obtain ⟨cs',m',e2⟩:=hvo k hk
    have:=hcV.at e2 (hne k (.inl ⟨_,_,_,e2,by decide,by decide⟩))
    rw [this] at e;simp at e
  ·rw [List.flatMap_append]
   show V.ownsRow 0 69 2 sl' (s.sts++[_]).length _
   rw [List.length_append]
   exact hrowV
  ·rw [List.map_append,hfst];rfl
  ·intro q hq
   rw [hob] at hq
   cases hq
   exact .inr (.inl rfl)
  ·intro x hxm
   rcases List.mem_append.1 hxm with hxm | hxm
   ·obtain ⟨⟨l,ho⟩,hbx,hl⟩:=hx x hxm
    have hk75:∀ q,x.2.1.ownBlock=some q→∃ cs m,W.heap[q]? = some (.cells cs 75 m):=ownsRow_block ho.own
    refine ⟨⟨l,ho.typed hcV (fun q hq=>?_) h3t⟩,fun q hq=>?_,hl⟩
    ·obtain ⟨cs,m,hb⟩:=hk75 q hq
     exact hne _ (.inl ⟨cs,75,m,hb,by decide,by decide⟩)
    ·obtain ⟨cs,m,hb⟩:=hk75 q hq
     exact .inl ⟨hbx q hq,hnsv _ (.inl ⟨cs,75,m,hb,by decide⟩)⟩
   ·obtain rfl:=List.mem_singleton.1 hxm
    refine ⟨⟨lo,hv.typed hcV (fun q hq=>?_) h3t⟩,fun q hq=> .inr (.inr hq),hml⟩
    obtain ⟨cs,m,hb⟩:=hvo q hq
    exact hne _ (.inl ⟨cs,75,m,hb,by decide,by decide⟩)
  ·rintro q (hq | rfl | hq)
   ·exact .inl hq.1
   ·rcases hlies with hl | hl
    ·exact .inl (hown q hl)
    ·exact .inr (.inl (by omega))
   ·exact .inr (.inr hq)
theorem zeroInt (w:World):(zeroValue 3).run Tryz.prog w = .ok (.int .i64 0) w:=by kernel_rfl
theorem MkIs.look {D:Nat→Prop} {W:World} {mb:Nat} {nv:Value} {s:MkS} {mv:Int} (h:MkIs W D mb nv s mv) (key:List UInt8) (hk:key.length≤1000000000) :
 ∃ pb,W.cell? ⟨mb,2,none⟩=some (.map (some pb))∧∃ c:Int,(Instr.lookup 60 (.map (some pb)) (.string ⟨key.toArray⟩) true).run Tryz.prog W = .ok (.tuple #[.int .i64 c,.bool (s.num.lookup key).isSome]) W∧∀ n,s.num.lookup key=some n→c=(n:Int):=by
 obtain ⟨h1,h2,h3,sv,pb,lo,xs,dm,hb,dmb,dpb,hm,hnum,hrow,hfst,hown,hx⟩:=h
 refine ⟨pb,cell_row hb 2 rfl,?_⟩
 have hkey:keyOf Tryz.prog 9 (.string ⟨key.toArray⟩)=some (.string key):=keyOf_string_mk Tryz.underlying9 (s:=⟨key.toArray⟩) (by show key.toArray.size≤_;unfold maxLen;simp;omega)
 obtain ⟨v,ps,hrun,hv⟩:=hm.look_ok (string_keyed Tryz.underlying9) Tryz.underlying60 (zeroInt W) (plainElem_int Tryz.underlying3 (by decide)) hkey
 obtain ⟨c,rfl,hc,_⟩:=plainElem_int_inv Tryz.underlying3 hv
 rw [(hnum.2 key).1] at hrun
 refine ⟨c,hrun,fun n hn=>?_⟩
 have e1:=(hnum.2 key).2 n hn
 have e2:=congrArg Prod.fst hc
 simp only at e2
 rw [e1] at e2
 simpa using e2.symm
theorem MkIs.number {D:Nat→Prop} {W:World} {mb:Nat} {nv:Value} {s:MkS} {mv:Int} (h:MkIs W D mb nv s mv) (hlt:s.num.length < s.sts.length) (key:List UInt8) (hk:key.length≤1000000000) (n:Nat) (hn:n≤1000000) :
 ∃ pb,W.cell? ⟨mb,2,none⟩=some (.map (some pb))∧∃ W',(Instr.mapUpdate 60 (.map (some pb)) (.string ⟨key.toArray⟩) (.int .i64 (n:Int))).run Tryz.prog W = .ok () W'∧MkIs W' D mb nv ⟨s.sts,(key,n)::s.num⟩ mv∧Chg D W W':=by
 obtain ⟨h1,h2,h3,sv,pb,lo,xs,dm,hb,dmb,dpb,hm,hnum,hrow,hfst,hown,hx⟩:=h
 refine ⟨pb,cell_row hb 2 rfl,?_⟩
 have hkey:keyOf Tryz.prog 9 (.string ⟨key.toArray⟩)=some (.string key):=keyOf_string_mk Tryz.underlying9 (s:=⟨key.toArray⟩) (by show key.toArray.size≤_;unfold maxLen;simp;omega)
 obtain ⟨W',hrun,hm',hg⟩:=hm.update (string_keyed Tryz.underlying9) Tryz.underlying60 (by unfold maxLen;have:=h3.2;omega) hkey (plainElem_int Tryz.underlying3 (a:=(n:Int)) (WalkArith.wf_i64 (by omega)))
 have hc:Chg (At1 pb) W W':=(Chg.refl _ _).grown hg (fun q hq _=>by cases hq;rfl)
 obtain ⟨es,clock,hpb,_⟩:=hm
 have hne:∀ q,(∃ cs t m,W.heap[q]? = some (.cells cs t m))→¬ At1 pb q:=by
  rintro q ⟨cs,t,m,h⟩ e
  have e:q=pb:=e
  subst e
  rw [hpb] at h;simp at h
 refine ⟨W',hrun,⟨fun k hk=>Nat.lt_of_lt_of_le (h1 k hk) hc.size,fun k hk cs m e=>?_,⟨hlt,h3.2⟩,sv,pb,lo,xs,dm.put (.string key) (.lit (.int .i64 (n:Int))),hc.at hb (hne _ ⟨_,_,_,hb⟩),dmb,dpb,hm',?_,ownsRow_chg hrow hc (fun q hq=>?_),hfst,hown,fun x hxm=>?_⟩,hc.mono (fun q _ e=>by have e:q=pb:=e;exact e ▸ dpb)⟩
 ·by_cases hkp:k=pb
  ·subst hkp
   obtain ⟨es',clock',hpb',_⟩:=hm'
   rw [hpb'] at e;simp at e
  ·exact h2 k hk cs m (by rw [← hc.block k (h1 k hk) hkp];exact e)
 ·refine ⟨hnum.1.put _ _,fun k=>?_⟩
  by_cases hkk:k=key
  ·subst hkk
   refine ⟨?_,fun m hm=>?_⟩
   ·rw [has_put_same hnum.1 (k:= .string k) trivial,List.lookup_cons_self];rfl
   ·rw [List.lookup_cons_self] at hm
    cases hm
    exact atKey_put_same hnum.1 (k:= .string k) trivial _ _
  ·have hbe:(k==key)=false:=beq_eq_false_iff_ne.2 hkk
   have hne:(Lit.string k) ≠ .string key:=fun e=>hkk (by simpa using e)
   refine ⟨?_,fun m hm=>?_⟩
   ·rw [has_put_other hne,List.lookup_cons,hbe];exact (hnum.2 k).1
   ·rw [List.lookup_cons,hbe] at hm
    rw [atKey_put_other hne];exact (hnum.2 k).2 m hm
 ·obtain ⟨cs,m,e⟩:=ownsRow_block hrow q hq
  exact hne _ ⟨_,_,_,e⟩
 ·obtain ⟨⟨l,ho⟩,hbx,hl⟩:=hx x hxm
  refine ⟨⟨l,ho.typed hc (fun q hq=>?_) (fun q e cs m h=>hne q ⟨_,_,_,h⟩ e)⟩,hbx,hl⟩
  obtain ⟨cs,m,e⟩:=ownsRow_block ho.own q hq
  exact hne _ ⟨_,_,_,e⟩
end Go.Proofs.YtkgfdgfhpdhhaaaGreat
namespace Go.Proofs.YtkgfdgfhpdhhaaaGreat
open Go.ChangeShapes Go.WideShapes Go.RowKit Go.Shelf
attribute [local go_sem] Oper.semAt_some
set_option maxRecDepth 100000
set_option maxHeartbeats 8000000
theorem cell_oneM {w:World} {b:Nat} {x:Value} {t:TypeId} (h:w.heap[b]? = some (.cells #[x] t (0,0))):w.cell? ⟨b,0,none⟩=some x∧w.frozen? ⟨b,0,none⟩=false:=⟨cell_row h 0 rfl,by simp [World.frozen?,h]⟩
theorem wp_append_runM {P:Program} {w:World} {o:Oper} {a:Act} {K:Act→World→Prop} {Q:Exit→Act→World→Prop} (sl x:Operand) (t u:TypeId)
 (ho:o.op = .call { callee:= .builtin .append,args:=#[sl,x],argTypes:=#[t,u] }) (v xv:Value) (hs:a.eval sl=v) (hx:a.eval x=xv) (v':Value) (w':World)
 (hr:(Builtin.append_ #[t,u] o.type #[v,xv]).run P w = .ok v' w') (h:K (a.put o.dst v') w'):o.wp P a w K Q:=by
 unfold Oper.wp execOp
 simp only [ho,resolve,invoke,builtin,Sem.run_bind,Sem.run_pure,Result.andThen_ok,List.map_toArray,List.map_cons,List.map_nil,hs,hx,hr]
 exact h
def BIv (a b:List Mvi) (w:World) (ob:Nat) (pre:List Nat) (D:Nat→Prop) (W:World):Prop:=∃ sl xs',DOwn D W ob ob sl (prodN a b pre.length) xs'∧(prodN a b pre.length).length≤4096∧Chg Nob w W∧∀ q,D q→w.heap.size≤q
def BIp (a b:List Mvi) (w:World) (ch:List PanicEntry) (W:World):Prop:=ch=manyE∧4096 < (pairsI a b).length∧Chg Nob w W
theorem mboth_any {w:World} {mk:Value} {ax ay:Option Addr} {cx cy:Nat} {xs ys:List MvS} {a b:List Mvi} (hax:xs.map (·.1)=a) (hay:ys.map (·.1)=b) (hla:a.length≤10000) (hlb:b.length≤10000)
 (hjn:∀ x∈xs,∀ y∈ys,x.1.to.length+y.1.to.length≤10000) (hx:MIn w ax xs) (hy:MIn w ay ys):Calls Tryz.prog 117 #[mk,.slice ax a.length cx,.slice ay b.length cy] w (BothPost a b w):=by
 have hxl:xs.length=a.length:=by rw [← hax,List.length_map]
 have hyl:ys.length=b.length:=by rw [← hay,List.length_map]
 obtain ⟨ob,hob⟩:∃ ob,ob=w.heap.size:=⟨_,rfl⟩
 obtain ⟨X,hX,hcX,hbX,hsX⟩:=box_cells w #[.slice none 0 0] 67
 obtain ⟨Y,hY,hcY,hbY,hsY⟩:=box_cells X #[.slice ax a.length cx] 67
 obtain ⟨Z,hZ,hcZ,hbZ,hsZ⟩:=box_cells Y #[.slice ay b.length cy] 67
 rw [hsX] at hbY hsY
 rw [hsY] at hbZ hsZ
 rw [← hob] at hbX hsX hbY hsY hbZ hsZ
 have hcXZ:Chg Nob X Z:=hcY.trans1 hcZ
 have hcwZ:Chg Nob w Z:=hcX.trans1 hcXZ
 have hpa:=pairsM_any (.slice ax a.length cx) (.slice ay b.length cy) ⟨_,_,_,rfl⟩ ⟨_,_,_,rfl⟩ X
 rw [hsX,← hY,← hZ] at hpa
 have hlow:∀ {ao:Option Addr} {zs:List MvS},MIn w ao zs→zs≠[]→∀ ad,ao=some ad→¬ (ad.block=ob):=by
  intro ao zs h hne ad e e2
  obtain ⟨z,zs',rfl⟩:=List.exists_cons_of_ne_nil hne
  obtain ⟨b0,o0,e3,c0,_⟩:=h 0 z rfl
  rw [e] at e3
  cases e3
  have h9:b0 < w.heap.size:=World.block_lt_of_cell? w _ c0
  have e2:b0=ob:=e2
  omega
 have hit:=pairsM_iter 3 (by omega) (fun q=>q=ob) (ob+1) (ob+1+1) (xs:=xs) (ys:=ys) (cx:=cx) (cy:=cy) Z (by rw [hxl];exact hcZ.at hbY (fun e=>e)) (by rw [hyl];exact hbZ) (by omega) (by omega) (hx.nob hcwZ).cl (hy.nob hcwZ).cl (hlow hx) (hlow hy) (by omega) (by omega)
 have hZ0:DOwn (fun q=>q=ob) Z ob ob (.slice none 0 0) (prodN a b 0) []:=⟨fun q e=>by have e:q=ob:=e;omega,⟨rfl,hcXZ.at hbX (fun e=>e)⟩,⟨World.ownsRow_nil _ _ _ _,rfl,fun x h=>by cases h⟩,fun q h=>by simp [Value.ownBlock] at h,fun x h=>by cases h⟩
 have HcwZ:=Lib.hid hcwZ
 have Hx:=Lib.hid hx
 have Hy:=Lib.hid hy
 have Hax:=Lib.hid hax
 have Hay:=Lib.hid hay
 have Hjn:=Lib.hid hjn
 have Hob:=Lib.hid hob
 have HsZ:=Lib.hid hsZ
 have Hit:=Lib.hid hit
 have HZ0:=Lib.hid hZ0
 have Hxl:=Lib.hid hxl
 have Hyl:=Lib.hid hyl
 clear hY hZ hcY hcZ hcX hbX hbY hbZ hsX hsY hsZ hcXZ hcwZ hlow hit hZ0 hx hy hax hay hjn hob hxl hyl
 refine calls_of_wpAt (n:=3) Tryz.func117 rfl ?_
 simp only [Tryz.ntmps117,List.size_toArray,List.length_cons,List.length_nil,Nat.reduceAdd,Nat.reduceSub,Array.replicate_succ,Array.replicate_zero,List.push_toArray,List.append_toArray,List.nil_append,List.cons_append]
 refine wpAt_seq (wpAt_of_wp ?_)
 go_wp2_with fail
 refine wpAt_seq (wpAt_of_wp ?_)
 go_wp2_with fail
 rw [← hX,← Hob.out]
 clear hX
 refine wpAt_seq (wpAt_seq (wpAt_of_wp ?_))
 go_wp2_with fail
 (with_reducible refine hpa.mono ?_)
 rintro e Z ⟨rfl,rfl⟩
 clear hpa
 go_wp2_with fail
 refine wpAt_block (range_iterD Tryz.func117 (n:=3) (gf:=186) rfl (enters_of Tryz.func186 (by kernel_rfl) rfl) Hit.out (fun _=>rfl)
  (BIv a b w ob) (BIp a b w) ?_ ?_ ⟨_,_,HZ0.out,Nat.zero_le _,HcwZ.out,fun q e=>by have e:q=ob:=e;have:=Hob.out;omega⟩ ?_ ?_ ?_)
 ·rintro pre D A ⟨sl,xs',h,_⟩ k hk
  exact h.lt k hk
 ·rintro pre D A B ⟨sl,xs',h,h4,hc,hlo⟩ hs
  exact ⟨sl,xs',h.keep hs (fun q e=>e.2),h4,hc.trans hs (fun i hi e=>by have:=e.1;have:=HsZ.out;have:=Hob.out;omega),hlo⟩
 ·rintro l pre p D W ⟨sl,xs',hD,h4,hc,hDlo⟩ hpre hsz hn0 hn1
  obtain ⟨hpl,hpN⟩:=range_pre_inv hpre
  rw [← hpl] at hD h4
  have hys0:0 < ys.length:=by
   rcases Nat.eq_zero_or_pos ys.length with e | e
   ·rw [e,Nat.mul_zero] at hpN;omega
   ·exact e
  have hpx:p / ys.length < xs.length:=by rw [Nat.div_lt_iff_lt_mul hys0];exact hpN
  have hpy:p % ys.length < ys.length:=Nat.mod_lt _ hys0
  obtain ⟨x,hxm,hxi,hxd,hxa⟩:=getD_map1 Hax.out hpx
  obtain ⟨y,hym,hyi,hyd,hyb⟩:=getD_map1 Hay.out hpy
  have henc:encM xs ys p=#[.agg #[.int .u64 x.1.yes,.int .u64 x.1.no,.slice x.2.1 x.1.to.length x.2.2],.agg #[.int .u64 y.1.yes,.int .u64 y.1.no,.slice y.2.1 y.1.to.length y.2.2]]:=by
   unfold encM;rw [hxd,hyd];rfl
  have hatp:atP a b p=pairI x.1 y.1:=by unfold atP;rw [← Hyl.out,hxa,hyb]
  have hp1:(pre++[p]).length=p+1:=by rw [List.length_append,List.length_singleton,hpl]
  have hNle:(prodN a b (p+1)).length≤(pairsI a b).length:=prodN_le a b (by rw [← Hxl.out,← Hyl.out];omega)
  rw [prodN_succ,hatp] at hNle
  obtain ⟨hxt,hxn⟩:TRow w 0 x.2.1 x.1.to∧(x.2.1=none→x.2.2=0):=by
   obtain ⟨b0,o0,e,c0,c1,c2,hl,ht,hn⟩:=Hx.out _ x hxi
   exact ⟨ht,hn⟩
  obtain ⟨hyt,hyn⟩:TRow w 0 y.2.1 y.1.to∧(y.2.1=none→y.2.2=0):=by
   obtain ⟨b0,o0,e,c0,c1,c2,hl,ht,hn⟩:=Hy.out _ y hyi
   exact ⟨ht,hn⟩
  have hjl:=Hjn.out x hxm y hym
  rw [henc]
  simp only [zip2,List.setIfInBounds_toArray,List.set_cons_succ,List.set_cons_zero]
  obtain ⟨B1,hB1,hcB1,hbB1,hsB1⟩:=box_cells W #[.int .u64 x.1.yes,.int .u64 x.1.no,.slice x.2.1 x.1.to.length x.2.2] 75
  obtain ⟨B2,hB2,hcB2,hbB2,hsB2⟩:=box_cells B1 #[.int .u64 y.1.yes,.int .u64 y.1.no,.slice y.2.1 y.1.to.length y.2.2] 75
  have hWs:=hD.box.2
  have HD:=Lib.hid hD
  have Hc:=Lib.hid hc
  have H4:=Lib.hid h4
  have Hatp:=Lib.hid hatp
  have HNle:=Lib.hid hNle
  have Hp1:=Lib.hid hp1
  have Hxt:=Lib.hid hxt
  have Hyt:=Lib.hid hyt
  have Hxn:=Lib.hid hxn
  have Hyn:=Lib.hid hyn
  have Hjl:=Lib.hid hjl
  have Hsz:=Lib.hid hsz
  have HDlo:=Lib.hid hDlo
  have Hn1:=Lib.hid hn1
  have HcB:Hid (Chg Nob W B2):=Lib.hid (hcB1.trans1 hcB2)
  have HbB1:Hid (B2.heap[W.heap.size]? = some (.cells #[.int .u64 x.1.yes,.int .u64 x.1.no,.slice x.2.1 x.1.to.length x.2.2] 75 (0,0))):=Lib.hid (hcB2.at hbB1 (fun e=>e))
  have HbB2:Hid (B2.heap[W.heap.size+1]? = some (.cells #[.int .u64 y.1.yes,.int .u64 y.1.no,.slice y.2.1 y.1.to.length y.2.2] 75 (0,0))):=Lib.hid (by rw [hsB1] at hbB2;exact hbB2)
  clear hD hDlo hc h4 hpre hpl hpN hpx hpy hxm hym hxi hyi hxd hyd hxa hyb henc hatp hp1 hNle hxt hyt hxn hyn hjl hsz hn0 hn1 hbB1 hbB2 hsB2 hcB1 hcB2 hWs hys0
  gi_wp2
  rw [← hB1,← hB2]
  clear hB1 hB2
  refine ⟨HcB.out,fun w₂ hc2=>?_⟩
  have HD2:Hid (DOwn D w₂ ob ob sl (prodN a b p) xs'):=Lib.hid ((HD.out.keep HcB.out (fun _ e=>e.elim)).keep hc2 (fun q e=>by have e:q=Z.heap.size+1:=e;subst e;exact Hn1.out))
  have HbX:Hid (w₂.heap[W.heap.size]? = some (.cells #[.int .u64 x.1.yes,.int .u64 x.1.no,.slice x.2.1 x.1.to.length x.2.2] 75 (0,0))):=Lib.hid (hc2.at HbB1.out (fun e=>by have e:W.heap.size=Z.heap.size+1:=e;have:=Hsz.out;omega))
  have HbY:Hid (w₂.heap[W.heap.size+1]? = some (.cells #[.int .u64 y.1.yes,.int .u64 y.1.no,.slice y.2.1 y.1.to.length y.2.2] 75 (0,0))):=Lib.hid (hc2.at HbB2.out (fun e=>by have e:W.heap.size+1=Z.heap.size+1:=e;have:=Hsz.out;omega))
  have Hcw:Hid (Chg Nob w w₂):=Lib.hid ((Hc.out.trans1 HcB.out).trans hc2 (fun i hi e=>by have e:i=Z.heap.size+1:=e;have:=HsZ.out;have:=Hob.out;omega))
  have HDx:Hid (∀ q,D q→q < W.heap.size):=Lib.hid (HD.out.lt)
  have Hgx:Hid (W.heap.size < W.heap.size+1∧W.heap.size+1 < w₂.heap.size):=(show _∧_ from ⟨by omega,(Array.getElem?_eq_some_iff.1 HbY.out).1⟩)
  generalize hxb:W.heap.size=xb at *
  generalize hyb:xb+1=yb at *
  clear hc2 HcB HbB1 HbB2 HD Hc hxb hyb Hsz Hn1
  obtain ⟨yy,hyy⟩:∃ yy,yy=bits .or .u64 x.1.yes y.1.yes:=⟨_,rfl⟩
  obtain ⟨nn,hnn⟩:∃ nn,nn=bits .or .u64 x.1.no y.1.no:=⟨_,rfl⟩
  obtain ⟨E,hE,hcE,hbE,hsE⟩:=box_cells w₂ #[.int .u64 yy,.int .u64 nn] 72
  obtain ⟨x0,x1,x2,_⟩:=cells_three (hcE.at HbX.out (fun e=>e))
  obtain ⟨y0,y1,y2,_⟩:=cells_three (hcE.at HbY.out (fun e=>e))
  obtain ⟨g0,g1,_⟩:=cell_two hbE
  have o0:=cell_row (hcE.at HD2.out.box.2 (fun e=>e)) 0 (v:=sl) rfl
  obtain ⟨p0,p1,p2,_⟩:=cells_three HbX.out
  obtain ⟨r0,r1,r2,_⟩:=cells_three HbY.out
  have HcE:Hid (Chg Nob w₂ E):=Lib.hid hcE
  have HSE:Hid (∀ V,Chg Nob E V→V.cell? ⟨ob,0,none⟩=some sl∧V.cell? ⟨w₂.heap.size,0,none⟩=some (.int .u64 yy)∧V.cell? ⟨w₂.heap.size,1,none⟩=some (.int .u64 nn)∧V.cell? ⟨xb,2,none⟩=some (.slice x.2.1 x.1.to.length x.2.2)∧V.cell? ⟨yb,2,none⟩=some (.slice y.2.1 y.1.to.length y.2.2)):=(show ∀ V,Chg Nob E V→_∧_∧_∧_∧_ from fun V hV=>⟨hV.cell' o0 (fun e=>e),hV.cell' g0 (fun e=>e),hV.cell' g1 (fun e=>e),hV.cell' x2 (fun e=>e),hV.cell' y2 (fun e=>e)⟩)
  have Hjc:Hid (∀ V,Chg Nob E V→Calls Tryz.prog 61 #[.slice x.2.1 x.1.to.length x.2.2,.slice y.2.1 y.1.to.length y.2.2] V fun e w'=>Chg Nob V w'∧∃ at' ct,e = .returned (.slice at' (joinI x.1.to y.1.to).length ct)∧TRow w' V.heap.size at' (joinI x.1.to y.1.to)∧(at'=none→ct=0)):=Lib.hid (fun V hV=>join_any Hjl.out (Hxt.out.nob ((Hcw.out.trans1 HcE.out).trans1 hV)).1 (Hyt.out.nob ((Hcw.out.trans1 HcE.out).trans1 hV)).1 Hxn.out Hyn.out)
  have Hpi:Hid (pairI x.1 y.1=if bits .and .u64 yy nn=0 then some ⟨yy,nn,joinI x.1.to y.1.to⟩ else none):=(show pairI x.1 y.1=_ by unfold pairI;rw [hyy,hnn])
  have o2:=cell_row HD2.out.box.2 0 (v:=sl) rfl
  obtain ⟨ap,cp,hsl⟩:=ownsRow_shape HD2.out.own.own
  subst hsl
  clear hcE hbE hsE x0 x1 x2 y0 y1 y2
  rw [hE] at g0 g1 o0
  by_cases hcm:bits .and .u64 yy nn=0
  ·have Hat:Hid (pairI x.1 y.1=some ⟨yy,nn,joinI x.1.to y.1.to⟩):=(show _=_ by rw [Hpi.out,if_pos hcm])
   rw [hyy,hnn] at hcm g0 g1 o0
   gi_wp2
   rw [← hyy,← hnn] at g0 g1 o0 hcm ⊢
   rw [← hE] at g0 g1 o0 ⊢
   clear hE hyy hnn p0 p1 p2 r0 r1 r2 o2 hcm HbX HbY Hpi
   generalize hgb:w₂.heap.size=gb at *
   have Hgb:=Lib.hid hgb
   clear hgb
   obtain ⟨_,_,_,x2,y2⟩:=HSE.out E (Chg.refl _ _)
   refine wp_region_free_veil (fun i=>i != 10) (fun w'=>w'.cell? ⟨ob,0,none⟩=some (.slice ap (prodN a b p).length cp)∧w'.cell? ⟨gb,0,none⟩=some (.int .u64 yy)∧w'.cell? ⟨gb,1,none⟩=some (.int .u64 nn)∧w'.cell? ⟨xb,2,none⟩=some (.slice x.2.1 x.1.to.length x.2.2)∧w'.cell? ⟨yb,2,none⟩=some (.slice y.2.1 y.1.to.length y.2.2)) (by kernel_rfl) (by kernel_rfl) ⟨o0,g0,g1,x2,y2⟩ (fun Q2 hQ2 hpan hHeld=>?_)
   refine wpAnyG_take (i:=0) (v:=?_) rfl (by kernel_rfl) (fun c _ w h=>hpan c _ _ w h) (Or.inl ⟨by rfl,?_⟩) hHeld ?_
   rotate_left
   ·intro w hSw;obtain ⟨o0,g0,g1,x2,y2⟩:=hSw;go_simp;(try (with_reducible rfl))
   simp only [Act.put,List.setIfInBounds_toArray]
   refine wpAnyG_take (i:=1) (v:=?_) rfl (by kernel_rfl) (fun c _ w h=>hpan c _ _ w h) (Or.inl ⟨by rfl,?_⟩) hHeld ?_
   rotate_left
   ·intro w hSw;obtain ⟨o0,g0,g1,x2,y2⟩:=hSw;go_simp;(try (with_reducible rfl))
   try simp only [Act.put]
   refine wpAnyG_take (i:=2) (v:=?_) rfl (by kernel_rfl) (fun c _ w h=>hpan c _ _ w h) (Or.inl ⟨by rfl,?_⟩) hHeld ?_
   rotate_left
   ·intro w hSw;obtain ⟨o0,g0,g1,x2,y2⟩:=hSw;go_simp;(try (with_reducible rfl))
   try simp only [Act.put]
   refine wpAnyG_take (i:=3) (v:=?_) rfl (by kernel_rfl) (fun c _ w h=>hpan c _ _ w h) (Or.inl ⟨by rfl,?_⟩) hHeld ?_
   rotate_left
   ·intro w hSw;obtain ⟨o0,g0,g1,x2,y2⟩:=hSw;go_simp;(try (with_reducible rfl))
   try simp only [Act.put]
   refine wpAnyG_take (i:=4) (v:=?_) rfl (by kernel_rfl) (fun c _ w h=>hpan c _ _ w h) (Or.inl ⟨by kernel_rfl,?_⟩) hHeld ?_
   rotate_left
   ·intro w hSw;obtain ⟨o0,g0,g1,x2,y2⟩:=hSw;go_simp;(try (with_reducible rfl))
   try simp only [Act.put]
   refine wpAnyG_take (i:=5) (v:=?_) rfl (by kernel_rfl) (fun c _ w h=>hpan c _ _ w h) (Or.inl ⟨by kernel_rfl,?_⟩) hHeld ?_
   rotate_left
   ·intro w hSw;obtain ⟨o0,g0,g1,x2,y2⟩:=hSw;go_simp;(try (with_reducible rfl))
   try simp only [Act.put]
   refine rdG 6 fun K hK=>?_
   go_simp
   (with_reducible refine (Hjc.out _ ((Chg.refl Nob E).drew)).mono ?_)
   rintro e v1 ⟨hc5,at',ct,rfl,hT,hn⟩
   have Hv1:Hid (Chg Nob E v1):=Lib.hid (((Chg.refl Nob E).drew).trans1 hc5)
   have HT:Hid (TRow v1 w₂.heap.size at' (joinI x.1.to y.1.to)):=Lib.hid (hT.low HcE.out.size)
   have Hnt:=Lib.hid hn
   clear hc5 hT hn
   refine hK.out _ _ (fun _=>HSE.out _ Hv1.out) ?_
   clear hK K
   try simp only [Act.put]
   refine wpAnyG_take (i:=7) (v:=?_) rfl (by kernel_rfl) (fun c _ w h=>hpan c _ _ w h) (Or.inl ⟨by kernel_rfl,?_⟩) (HSE.out _ Hv1.out) ?_
   rotate_left
   ·intro w hSw;obtain ⟨o0,g0,g1,x2,y2⟩:=hSw;go_simp;(try (with_reducible rfl))
   try simp only [Act.put]
   refine rdG 8 fun K hK=>?_
   go_simp
   refine hK.out _ _ (fun _=>HSE.out _ (Hv1.out.alloc _)) ?_
   clear hK K
   try simp only [Act.put]
   refine rdG 9 fun K hK=>?_
   have hpush:=HD2.out.push (W:=w₂) (V:=v1) (by have:=Hcw.out.size;have:=Hob.out;omega) (by have:=H4.out;omega) (HcE.out.trans1 Hv1.out) ((⟨yy,nn,joinI x.1.to y.1.to⟩:Mvi),at',ct) ⟨by show (joinI x.1.to y.1.to).length≤2000000;have:=joinI_len x.1.to y.1.to;have:=Hjl.out;omega,HT.out,Hnt.out⟩
   obtain ⟨sl',V1,hrun,hob1,hc1,⟨q,c,hsl⟩,D',hDV,hcD,hgr⟩:=hpush
   subst hsl
   have Hrun:=Lib.hid hrun
   have HDV:=Lib.hid hDV
   have HcD:=Lib.hid hcD
   have Hgr:=Lib.hid hgr
   have Hob1:=Lib.hid hob1
   have hlow:∀ k,xb≤k→¬ (Value.slice ap (prodN a b p).length cp).ownBlock=some k:=fun k hk e=>by have:=HDx.out k (HD2.out.ownD k e);omega
   have HS9:Hid (V1.cell? ⟨ob,0,none⟩=some (.slice ap (prodN a b p).length cp)∧V1.cell? ⟨gb,0,none⟩=some (.int .u64 yy)∧V1.cell? ⟨gb,1,none⟩=some (.int .u64 nn)∧V1.cell? ⟨xb,2,none⟩=some (.slice x.2.1 x.1.to.length x.2.2)∧V1.cell? ⟨yb,2,none⟩=some (.slice y.2.1 y.1.to.length y.2.2)):=(show _∧_∧_∧_∧_ from by obtain ⟨_,t1,t2,t3,t4⟩:=HSE.out _ Hv1.out;have h8:=Hgx.out;exact ⟨(cell_oneM Hob1.out).1,hc1.cell' t1 (hlow _ (by show xb≤gb;omega)),hc1.cell' t2 (hlow _ (by show xb≤gb;omega)),hc1.cell' t3 (hlow _ (Nat.le_refl _)),hc1.cell' t4 (hlow _ (by show xb≤yb;omega))⟩)
   clear hrun hDV hcD hgr hob1 hc1 hlow
   refine wp_append_runM (.tmp 37) (.tmp 45) 67 67 rfl _ _ rfl rfl _ _ Hrun.out ?_
   refine hK.out _ _ (fun _=>HS9.out) ?_
   clear hK K
   try simp only [Act.put]
   refine rdG 10 fun K hK=>?_
   obtain ⟨o7,f7⟩:=cell_oneM Hob1.out
   go_simp
   refine hK.out _ _ (fun h=>absurd h (by decide)) ?_
   clear hK K o7 f7
   try simp only [Act.put]
   refine wpAnyG_done (by kernel_rfl) (hQ2 _ _ ?_) _
   go_simp
   clear hHeld hQ2 hpan g0 g1 o0 x2 y2
   have z0:=(cell_oneM HDV.out.box.2).1
   generalize hV2:V1.setCell ⟨ob,0,none⟩ (.slice (some ⟨q,0,none⟩) ((prodN a b p).length+1) c)=V2 at *
   have H5:Hid (prodN a b (pre++[p]).length=prodN a b p++[(⟨yy,nn,joinI x.1.to y.1.to⟩:Mvi)]):=(show _=_ by rw [Hp1.out,prodN_succ,Hatp.out,Hat.out];rfl)
   have H6:Hid ((prodN a b p).length+1≤(pairsI a b).length):=(show _≤_ by have:=HNle.out;rw [Hat.out,List.length_append] at this;exact this)
   have HcV:Hid (Chg Nob w V2):=Lib.hid (Hcw.out.trans HcD.out (fun i hi e=>by have:=HDlo.out i e;omega))
   by_cases hbig:4096 < (prodN a b p).length+1
   ·have hbi:(4096:Int) < ((prodN a b p).length:Int)+1:=by omega
    gi_wp2
    exact ⟨rfl,KeepS.of_chg HcD.out,rfl,by have:=H6.out;omega,HcV.out⟩
   ·have hbi:¬ (4096:Int) < ((prodN a b p).length:Int)+1:=by omega
    gi_wp2
    exact ⟨KeepS.of_chg HcD.out,D',⟨.slice (some ⟨q,0,none⟩) ((prodN a b p).length+1) c,xs'++[((⟨yy,nn,joinI x.1.to y.1.to⟩:Mvi),at',ct)],by rw [H5.out];exact HDV.out,by rw [H5.out,List.length_append];show (prodN a b p).length+1≤4096;omega,HcV.out,fun k hk=>(Hgr.out k hk).elim (fun e=>HDlo.out k e) (fun e=>Nat.le_trans Hcw.out.size e)⟩,Hgr.out⟩
  ·have Hat:Hid (pairI x.1 y.1=none):=(show _=_ by rw [Hpi.out,if_neg hcm])
   have hcmb:(bits .and .u64 yy nn==0)=false:=beq_eq_false_iff_ne.2 hcm
   have hbi:¬ (4096:Int) < ((prodN a b p).length:Int):=by have:=H4.out;omega
   have hbd:decide ((4096:Int) < ((prodN a b p).length:Int))=false:=decide_eq_false hbi
   rw [hyy,hnn] at hcm hcmb g0 g1 o0
   gi_wp2
   rw [← hyy,← hnn,← hE]
   have H5:Hid (prodN a b (pre++[p]).length=prodN a b p):=(show _=_ by rw [Hp1.out,prodN_succ,Hatp.out,Hat.out];exact List.append_nil _)
   exact ⟨KeepS.of_chg HcE.out.any,D,⟨_,xs',by rw [H5.out];exact HD2.out.keep HcE.out (fun _ e=>e.elim),by rw [H5.out];exact H4.out,Hcw.out.trans1 HcE.out,HDlo.out⟩,fun k hk=> .inl hk⟩
 ·rintro D W ⟨sl,xs',hD,h4,hc,-⟩ hdf
  rw [List.length_range] at hD h4
  have hN:prodN a b (xs.length * ys.length)=pairsI a b:=by unfold pairsI;rw [Hxl.out,Hyl.out]
  rw [hN] at hD h4
  obtain ⟨ao,c,rfl,hmin⟩:=hD.own.min
  have hle:=least_any (mk:=mk) (c:=c) hD.own.fst hmin
  have o2:=cell_row hD.box.2 0 (v:= .slice ao (pairsI a b).length c) rfl
  have H4:=Lib.hid h4
  have Hc:=Lib.hid hc
  have Hdf:=Lib.hid hdf
  have HoW:Hid (ob≤W.heap.size):=(show ob≤W.heap.size by have:=hc.size;have:=Hob.out;omega)
  clear hD h4 hc hdf hN hmin
  refine wpAt_of_wp ?_
  go_wp2_with fail
  (with_reducible refine hle.mono ?_)
  clear hle o2
  rintro e w2 ⟨hc2,⟨h9,-⟩ | ⟨-,sl2,xs2,rfl,hown⟩⟩
  ·exact absurd h9 (by have:=H4.out;omega)
  ·have Hw2:Hid (Chg Nob w w2):=Lib.hid (Hc.out.trans1 hc2)
   have Hd2:=Lib.hid (hc2.at Hdf.out (fun e=>e))
   have Hown:=Lib.hid hown
   clear hc2 hown
   go_wp2_with fail
   refine leaves_one Hd2.out (fun W' hc'=>⟨_,results_tmp rfl _ _ _,Hw2.out.trans hc' (fun i hi e=>by have e:i=Z.heap.size:=e;have:=HsZ.out;have:=Hob.out;omega),.inr ⟨H4.out,sl2,xs2,rfl,?_⟩⟩)
   have hown:=Hown.out
   have hne:∀ q,(∃ cs t m,w2.heap[q]? = some (.cells cs t m))→¬ At1 Z.heap.size q:=by
    rintro q ⟨cs,t,m,h⟩ e
    have e:q=Z.heap.size:=e
    subst e
    rw [Hd2.out] at h
    cases h
   refine MOwn.low (lo:=W.heap.size) ⟨ownsRow_chg hown.own hc' (fun q hq=>?_),hown.fst,fun x hx=>?_⟩ (by have:=HoW.out;have:=Hob.out;omega)
   ·obtain ⟨cs,m,h⟩:=ownsRow_block hown.own q hq
    exact hne q ⟨cs,75,m,h⟩
   ·obtain ⟨t1,t2,t3⟩:=hown.tos x hx
    exact ⟨t1,t2.typed hc' (fun q e cs m h=>hne q ⟨cs,3,m,h⟩ e),t3⟩
 ·rintro ch W ⟨rfl,h4,hc⟩ hdf
  exact leaves_oneP hdf (fun W' hc'=>⟨hc.trans hc' (fun i hi e=>by have e:i=Z.heap.size:=e;have:=HsZ.out;have:=Hob.out;omega),.inl ⟨h4,rfl⟩⟩)
end Go.Proofs.YtkgfdgfhpdhhaaaGreat
namespace Go.Proofs.YtkgfdgfhpdhhaaaGreat
open Go.ChangeShapes Go.WideShapes Go.RowKit
attribute [local go_sem] Oper.semAt_some
set_option maxRecDepth 100000
set_option maxHeartbeats 8000000
mutual
def keyT:T→List UInt8
 | .node k nm kids=>(97+k.toNat).toUInt8::(nm++keyL kids)
def keyL:List T→List UInt8
 | []=>[]
 | t::ts=>40::(keyT t++(41::keyL ts))
end
theorem keyL_append (l m:List T):keyL (l++m)=keyL l++keyL m:=by
 induction l with
 | nil=>rfl
 | cons t l ih=>rw [List.cons_append,keyL,keyL,ih];simp
theorem keyT_eq (t:T):keyT t=(97+t.kind.toNat).toUInt8::(t.name++keyL t.kids):=by
 cases t;rw [keyT];rfl
theorem encode_key {k:Int} (h:1≤k∧k≤14):Utf8.encode (97+k)=⟨[(97+k.toNat).toUInt8].toArray⟩:=by
 have:k=1∨k=2∨k=3∨k=4∨k=5∨k=6∨k=7∨k=8∨k=9∨k=10∨k=11∨k=12∨k=13∨k=14:=by omega
 rcases this with rfl | rfl | rfl | rfl | rfl | rfl | rfl | rfl | rfl | rfl | rfl | rfl | rfl | rfl <;> rfl
theorem join_bytes (a b:List UInt8):(⟨a.toArray⟩++⟨b.toArray⟩:ByteArray)=⟨(a++b).toArray⟩:=by
 apply ByteArray.ext
 simp
theorem size_bytes (a:List UInt8):(⟨a.toArray⟩:ByteArray).size=a.length:=by show a.toArray.size=_;simp
theorem key_step {R:Nat→Prop} {w:World} {t:T} {v:Value} (hk:1≤t.kind∧t.kind≤14) (hsz:(keyT t).length≤1000000000) (ht:IsTree R w t v) (ih:∀ u∈t.kids,∀ W u',Chg Nob w W→IsTree R W u u'→Calls Tryz.prog 114 #[u'] W fun e w'=>e = .returned (.string ⟨(keyT u).toArray⟩)∧Chg Nob W w') :
 Calls Tryz.prog 114 #[v] w fun e w'=>e = .returned (.string ⟨(keyT t).toArray⟩)∧Chg Nob w w':=by
 obtain ⟨ao,cap,rfl,hlen,hkids⟩:=ht.parts
 obtain ⟨X,hX,hcX,hb,hsX⟩:=box_cells w #[.int .i64 t.kind,.string ⟨t.name.toArray⟩,.slice ao t.kids.length cap] 24
 obtain ⟨c0,c1,c2,_⟩:=cells_three hb
 rw [hX] at c0 c1 c2
 have henc:=encode_key hk
 have hsn:=size_bytes t.name
 have hs1:=size_bytes [(97+t.kind.toNat).toUInt8]
 have hj1:=join_bytes [(97+t.kind.toNat).toUInt8] t.name
 have hkl:=keyT_eq t
 have hkn:(keyT t).length=1+(t.name.length+(keyL t.kids).length):=by rw [hkl,List.length_cons,List.length_append];omega
 have hnl:t.name.length≤1000000000:=by omega
 have hll:t.name.length+(keyL t.kids).length≤1000000000:=by omega
 have HcX:=Lib.hid hcX
 have Hkids:=Lib.hid hkids
 have Hih:=Lib.hid ih
 have Hkl:=Lib.hid hkl
 have Hll:=Lib.hid hll
 have hk1:=hk.1
 have hk2:=hk.2
 clear hb hcX hsX hkids ih hkl hkn hsz ht hk
 go_enter Tryz.func114,Tryz.ntmps114
 go_wp2_with fail
 rw [← hX]
 clear hX c0 c1 c2 henc hs1 hsn
 go_loopw [3,17] (fun sv jv wr=>∃ (j:Nat) (s:ByteArray),jv = .int .i64 (j:Int)∧sv = .string s∧j≤t.kids.length∧Hid (s=⟨((97+t.kind.toNat).toUInt8::(t.name++keyL (t.kids.take j))).toArray⟩)∧Hid (Chg Nob X wr)) (fun _ jv _=>t.kids.length - (intOf jv).toNat)
 case atStart=>exact ⟨0,_,rfl,rfl,Nat.zero_le _,(show _=_ by rw [List.take_zero,keyL,List.append_nil];first | rfl | (rw [← hj1];rfl) | (apply ByteArray.ext;simp)),Chg.refl _ _⟩
 case round =>
  obtain ⟨j,s,rfl,rfl,hj,Hs,Hc⟩:=hrel
  by_cases hlt:j < t.kids.length
  ·obtain ⟨u,hu⟩:∃ u,t.kids[j]? = some u:=⟨_,List.getElem?_eq_getElem hlt⟩
   obtain ⟨b,o,ak,cp,rfl,_,q0,q1,q2,_,_,hut⟩:=Hkids.out.kid hu
   have hji:(j:Int) < (t.kids.length:Int):=by omega
   have hj0:(0:Int)≤(j:Int):=by omega
   have e0:=(HcX.out.trans1 Hc.out).cell' q0 (fun e=>e)
   have e1:=(HcX.out.trans1 Hc.out).cell' q1 (fun e=>e)
   have e2:=(HcX.out.trans1 Hc.out).cell' q2 (fun e=>e)
   obtain ⟨E,hE,hcE,hbE,_⟩:=box_cells wr #[.int .i64 u.kind,.string ⟨u.name.toArray⟩,.slice ak u.kids.length cp] 24
   obtain ⟨r0,r1,r2,_⟩:=cells_three hbE
   rw [hE] at r0 r1 r2
   have HcE:=Lib.hid (Hc.out.trans1 hcE)
   have hp:=Hih.out u (List.mem_of_getElem? hu) E _ (HcX.out.trans1 HcE.out) (hut.nob (HcX.out.trans1 HcE.out))
   have htk:t.kids.take (j+1)=t.kids.take j++[u]:=by
    rw [List.take_succ_eq_append_getElem hlt]
    rw [List.getElem?_eq_getElem hlt] at hu
    simp only [Option.some.injEq] at hu
    rw [hu]
   have hkey:keyL (t.kids.take (j+1))=keyL (t.kids.take j)++(40::(keyT u++[41])):=by rw [htk,keyL_append,keyL,keyL]
   have hall:(keyL t.kids).length=(keyL (t.kids.take (j+1))).length+(keyL (t.kids.drop (j+1))).length:=by
    rw [← List.length_append,← keyL_append,List.take_append_drop]
   have hlen3:t.name.length+((keyL (t.kids.take j)).length+((keyT u).length+2))≤1000000000:=by
    rw [hkey,List.length_append,List.length_cons,List.length_append] at hall
    simp only [List.length_cons,List.length_nil] at hall
    have:=Hll.out
    omega
   have hss:s.size≤1000000001:=by rw [Hs.out,size_bytes,List.length_cons,List.length_append];omega
   obtain ⟨ku,hku⟩:∃ ku:ByteArray,ku=⟨(keyT u).toArray⟩:=⟨_,rfl⟩
   have hkus:ku.size≤1000000000:=by rw [hku,size_bytes];omega
   rw [← hku] at hp
   obtain ⟨s1,h1⟩:∃ s1:ByteArray,⟨#[40]⟩++ku=s1:=⟨_,rfl⟩
   have h1s:s1.size=1+ku.size:=by rw [← h1,ByteArray.size_append];rfl
   obtain ⟨s2,h2⟩:∃ s2:ByteArray,s1++⟨#[41]⟩=s2:=⟨_,rfl⟩
   have h2s:s2.size=s1.size+1:=by rw [← h2,ByteArray.size_append];rfl
   obtain ⟨s3,h3⟩:∃ s3:ByteArray,s++s2=s3:=⟨_,rfl⟩
   have Hs3:Hid (s3=⟨((97+t.kind.toNat).toUInt8::(t.name++keyL (t.kids.take (j+1)))).toArray⟩):=(show s3=_ by
    rw [← h3,← h2,← h1,hku,Hs.out,hkey]
    apply ByteArray.ext
    simp)
   have hs1b:s1.size≤1000000001:=by omega
   have hs2b:s2.size≤1000000002:=by omega
   have hc40:(⟨#[40]⟩:ByteArray).size=1:=rfl
   have hc41:(⟨#[41]⟩:ByteArray).size=1:=rfl
   clear q0 q1 q2 hut htk hkey hall hlen3 hku hbE hcE hu h1s h2s
   go_wp2_with fail
   rw [← hE]
   (with_reducible refine hp.mono ?_)
   clear hp hE r0 r1 r2 e0 e1 e2
   rintro e w5 ⟨rfl,hc5⟩
   have H5:Hid (Chg Nob X w5):=Lib.hid (HcE.out.trans1 hc5)
   clear hc5
   go_wp2_with fail
   go_roundw
   case rel=>exact ⟨j+1,s3,by go_num,rfl,by omega,Hs3,H5⟩
   case measure=>simp [intOf];omega
  ·obtain rfl:j=t.kids.length:=by omega
   go_wp2_with fail
   go_ret
   exact ⟨by rw [Hkl.out];have h1:=Hs.out;rw [List.take_length] at h1;rw [← h1];rfl,HcX.out.trans1 Hc.out⟩
theorem keyL_mem:∀ {l:List T} {u:T},u∈l→(keyT u).length≤(keyL l).length
 | [],_,h=>by simp at h
 | t::ts,u,h=>by
   rw [keyL,List.length_cons,List.length_append,List.length_cons]
   rcases List.mem_cons.1 h with rfl | h
   ·omega
   ·have:=keyL_mem h;omega
theorem allL_memk:∀ {l:List T} {u x:T},u∈l→x∈allT u→x∈allL l
 | [],_,_,h,_=>by simp at h
 | t::ts,u,x,h,hx=>by
   rw [allL,List.mem_append]
   rcases List.mem_cons.1 h with rfl | h
   ·exact Or.inl hx
   ·exact Or.inr (allL_memk h hx)
theorem key_any:∀ t:T,(∀ u∈allT t,1≤u.kind∧u.kind≤14)→(keyT t).length≤1000000000→∀ (R:Nat→Prop) (w:World) (v:Value),IsTree R w t v→Calls Tryz.prog 114 #[v] w fun e w'=>e = .returned (.string ⟨(keyT t).toArray⟩)∧Chg Nob w w':=by
 refine kid_induct ?_
 intro t ih hk hl R w v ht
 have hown:1≤t.kind∧t.kind≤14:=hk t (by cases t;rw [allT];exact List.mem_cons_self ..)
 refine key_step hown hl ht (fun u hu W u' hW hut=>ih u hu (fun x hx=>hk x ?_) ?_ R W u' hut)
 ·cases t with
  | node k nm kids=>rw [allT];exact List.mem_cons_of_mem _ (allL_memk hu hx)
 ·have h1:=keyL_mem hu
  rw [keyT_eq,List.length_cons,List.length_append] at hl
  omega
end Go.Proofs.YtkgfdgfhpdhhaaaGreat
