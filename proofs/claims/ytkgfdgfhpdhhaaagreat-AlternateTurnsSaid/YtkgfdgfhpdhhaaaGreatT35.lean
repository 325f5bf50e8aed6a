/- Parts of the walks and of the plain theory, the first: What the maker's lists are, plain: numbers as bits, sets as sets. Conditions: the numbers are none below zero. -/
import Derived.Test.YtkgfdgfhpdhhaaaGreatT22
import Derived.Test.YtkgfdgfhpdhhaaaGreatT32
import Derived.Test.YtkgfdgfhpdhhaaaGreatT24
import Derived.Test.YtkgfdgfhpdhhaaaGreatT34
import Derived.Test.YtkgfdgfhpdhhaaaGreatT23
namespace Go.Proofs.YtkgfdgfhpdhhaaaGreat
open PL (F Mv Sta)
def setPl (l:List Int):List Nat:=l.map Int.toNat
def mvP (m:Mvi):Mv:=⟨bvU m.yes,bvU m.no,setPl m.to⟩
def stP (s:Sti):Sta:=⟨s.moves.map mvP,s.fin⟩
def okSet (l:List Int):Prop:=∀ k∈l,0≤k
def okMv (m:Mvi):Prop:=okU m.yes∧okU m.no∧okSet m.to
theorem bits_or {x y:Int}:bits .or .u64 x y=((bvU x ||| bvU y).toNat:Int):=by
 have hlt:(bvU x ||| bvU y).toNat < 2 ^ 64:=BitVec.isLt _
 show IntKind.wrap .u64 ((BitVec.ofInt 64 x ||| BitVec.ofInt 64 y).toNat:Int)=_
 have e:(BitVec.ofInt 64 x ||| BitVec.ofInt 64 y)=(bvU x ||| bvU y):=rfl
 rw [e]
 generalize (bvU x ||| bvU y).toNat=n at *
 have hw:IntKind.wrap .u64 (n:Int)=(n:Int) % 2 ^ 64:=rfl
 rw [hw]
 exact Int.emod_eq_of_lt (by omega) (by omega)
theorem bits_but {x y:Int}:bits .andNot .u64 x y=((bvU x &&& ~~~ bvU y).toNat:Int):=by
 have hlt:(bvU x &&& ~~~ bvU y).toNat < 2 ^ 64:=BitVec.isLt _
 show IntKind.wrap .u64 ((BitVec.ofInt 64 x &&& ~~~ BitVec.ofInt 64 y).toNat:Int)=_
 have e:(BitVec.ofInt 64 x &&& ~~~ BitVec.ofInt 64 y)=(bvU x &&& ~~~ bvU y):=rfl
 rw [e]
 generalize (bvU x &&& ~~~ bvU y).toNat=n at *
 have hw:IntKind.wrap .u64 (n:Int)=(n:Int) % 2 ^ 64:=rfl
 rw [hw]
 exact Int.emod_eq_of_lt (by omega) (by omega)
theorem okU_bv (n:BitVec 64):okU (n.toNat:Int):=⟨Int.natCast_nonneg _,by have:n.toNat < 2 ^ 64:=n.isLt;omega⟩
theorem bvU_of (n:BitVec 64):bvU (n.toNat:Int)=n:=by
 apply BitVec.eq_of_toNat_eq
 have:=bvU_nat (okU_bv n)
 omega
theorem zero_bv (n:BitVec 64):((n.toNat:Int)==0)=(n==0):=by
 rw [Bool.eq_iff_iff,beq_iff_eq,beq_iff_eq]
 constructor
 ·intro h
  apply BitVec.eq_of_toNat_eq
  have:n.toNat=0:=by omega
  rw [this];rfl
 ·intro h;rw [h];rfl
theorem setPl_mem {l:List Int} (h:okSet l) {k:Int} (hk:0≤k):k.toNat∈setPl l↔k∈l:=by
 unfold setPl
 rw [List.mem_map]
 constructor
 ·rintro ⟨x,hx,e⟩
  have:=h x hx
  rw [show k=x by omega];exact hx
 ·intro hx;exact ⟨k,hx,rfl⟩
theorem within_eq {a b:List Int} (ha:okSet a) (hb:okSet b):withinI a b=PL.withinL (setPl a) (setPl b):=by
 rw [Bool.eq_iff_iff,PL.withinL_iff]
 unfold withinI
 rw [List.all_eq_true]
 constructor
 ·intro h x hx
  obtain ⟨k,hk,rfl⟩:=List.mem_map.1 hx
  exact (setPl_mem hb (ha k hk)).2 (List.contains_iff_mem.1 (h k hk))
 ·intro h k hk
  exact List.contains_iff_mem.2 ((setPl_mem hb (ha k hk)).1 (h _ (List.mem_map.2 ⟨k,hk,rfl⟩)))
theorem covers_eq {a b:Mvi} (ha:okMv a) (hb:okMv b):coversI a b=PL.coversM (mvP a) (mvP b):=by
 unfold coversI PL.coversM mvP
 rw [bits_but,bits_but,zero_bv,zero_bv,within_eq ha.2.2 hb.2.2,Bool.and_assoc]
theorem getD_mapd {α β : Type} (f : α→β) (l:List α) (i:Nat) (d : α):(l.map f).getD i (f d)=f (l.getD i d):=by
 rw [List.getD_eq_getElem?_getD,List.getD_eq_getElem?_getD,List.getElem?_map]
 cases l[i]? <;> rfl
theorem okMv0:okMv m0:=⟨⟨by decide,by decide⟩,⟨by decide,by decide⟩,fun _ h=>nomatch h⟩
theorem ok_getD {ms:List Mvi} (h:∀ m∈ms,okMv m) (i:Nat):okMv (ms.getD i m0):=by
 rw [List.getD_eq_getElem?_getD]
 cases e:ms[i]? with
 | none=>exact okMv0
 | some m=>exact h m (List.mem_of_getElem? e)
theorem oks_getD {ls:List (List Int)} (h:∀ l∈ls,okSet l) (i:Nat):okSet (ls.getD i []):=by
 rw [List.getD_eq_getElem?_getD]
 cases e:ls[i]? with
 | none=>exact fun _ h=>nomatch h
 | some m=>exact h m (List.mem_of_getElem? e)
theorem mv0_eq:PL.mv0=mvP m0:=rfl
theorem least_eq {ms:List Mvi} (h:∀ m∈ms,okMv m):(leastI ms ms.length).map mvP=PL.leastL (ms.map mvP):=by
 unfold leastI PL.leastL keepI
 rw [List.map_map,List.length_map]
 have e:∀ i,(ms.map mvP).getD i PL.mv0=mvP (ms.getD i m0):=fun i=>by rw [mv0_eq,getD_mapd]
 simp only [e]
 have hk:(fun i=>(List.range ms.length).all fun k=>keepStep ms i k)=fun i=>(List.range ms.length).all fun k=>(k==i) || (!PL.coversM (mvP (ms.getD k m0)) (mvP (ms.getD i m0)) || (decide (i < k)&&PL.coversM (mvP (ms.getD i m0)) (mvP (ms.getD k m0)))):=by
  funext i
  congr 1
  funext k
  unfold keepStep
  rw [covers_eq (ok_getD h _) (ok_getD h _),covers_eq (ok_getD h _) (ok_getD h _)]
 rw [hk]
 rfl
theorem least_mem {ms:List Mvi} {m:Mvi} (h:m∈leastI ms ms.length):m∈ms:=leastI_mem (Nat.le_refl _) h
theorem join_eq {a b:List Int} (ha:okSet a) (hb:okSet b):setPl (joinI a b)=PL.joinL (setPl a) (setPl b):=by
 have e:∀ l:List Int,okSet l→(setPl l).map Int.ofNat=l:=fun l h=>by
  unfold setPl
  rw [List.map_map]
  conv=>rhs;rw [← List.map_id l]
  refine List.map_congr_left (fun x hx=>?_)
  have:=h x hx
  show ((x.toNat:Nat):Int)=x
  omega
 unfold PL.joinL
 rw [e a ha,e b hb]
 rfl
theorem ok_join {a b:List Int} (ha:okSet a) (hb:okSet b):okSet (joinI a b):=fun k hk=>(PL.mem_joinI.1 hk).elim (ha k) (hb k)
theorem pair_eq {x y:Mvi} (hx:okMv x) (hy:okMv y):(pairI x y).map mvP=PL.pairM (mvP x) (mvP y)∧∀ m,pairI x y=some m→okMv m:=by
 have h0:(bits .and .u64 (bits .or .u64 x.yes y.yes) (bits .or .u64 x.no y.no)=0)↔((bvU x.yes ||| bvU y.yes) &&& (bvU x.no ||| bvU y.no)==0)=true:=by
  rw [bits_bv,bits_or,bits_or,bvU_of,bvU_of,← zero_bv,beq_iff_eq]
 unfold pairI PL.pairM mvP
 by_cases h:bits .and .u64 (bits .or .u64 x.yes y.yes) (bits .or .u64 x.no y.no)=0
 ·rw [if_pos h,if_pos (h0.1 h)]
  refine ⟨?_,fun m hm=>?_⟩
  ·rw [Option.map_some,bits_or,bits_or,bvU_of,bvU_of,join_eq hx.2.2 hy.2.2]
  ·cases hm
   exact ⟨by show okU (bits .or .u64 x.yes y.yes);rw [bits_or];exact okU_bv _,by show okU (bits .or .u64 x.no y.no);rw [bits_or];exact okU_bv _,ok_join hx.2.2 hy.2.2⟩
 ·rw [if_neg h,if_neg (fun e=>h (h0.2 e))]
  exact ⟨rfl,fun m hm=>nomatch hm⟩
theorem prod_eq {a b:List Mvi} (ha:∀ m∈a,okMv m) (hb:∀ m∈b,okMv m):(pairsI a b).map mvP=PL.prodL (a.map mvP) (b.map mvP)∧∀ m∈pairsI a b,okMv m:=by
 have e:∀ (l:List Mvi) i,(l.map mvP).getD i PL.mv0=mvP (l.getD i m0):=fun l i=>by rw [mv0_eq,getD_mapd]
 unfold pairsI prodN PL.prodL
 constructor
 ·rw [List.map_filterMap,List.length_map,List.length_map]
  congr 1
  funext p
  rw [e,e,← (pair_eq (ok_getD ha _) (ok_getD hb _)).1]
  rfl
 ·intro m hm
  obtain ⟨p,_,hp⟩:=List.mem_filterMap.1 hm
  exact (pair_eq (ok_getD ha _) (ok_getD hb _)).2 m hp
theorem fewest_eq {ls:List (List Int)} (h:∀ l∈ls,okSet l):(fewestI ls ls.length).map setPl=PL.fewestL (ls.map setPl):=by
 unfold fewestI PL.fewestL keepS
 rw [List.map_map,List.length_map]
 have e:∀ i,(ls.map setPl).getD i []=setPl (ls.getD i []):=fun i=>by rw [show ([]:List Nat)=setPl [] from rfl,getD_mapd]
 have hk:(fun i=>(List.range ls.length).all fun k=>!lessI ls i k)=fun i=>(List.range ls.length).all fun k=>!PL.lessS (ls.map setPl) k i:=by
  funext i
  congr 1
  funext k
  unfold lessI PL.lessS
  rw [e,e,within_eq (oks_getD h _) (oks_getD h _)]
  unfold setPl
  rw [List.length_map,List.length_map]
  rfl
 rw [hk]
 congr 1
 funext i
 rw [e]
 rfl
theorem joins_eq {a b:List (List Int)} (ha:∀ l∈a,okSet l) (hb:∀ l∈b,okSet l):(joinsI a b).map setPl=PL.joinsL (a.map setPl) (b.map setPl)∧∀ l∈joinsI a b,okSet l:=by
 have e:∀ (l:List (List Int)) i,(l.map setPl).getD i []=setPl (l.getD i []):=fun l i=>by rw [show ([]:List Nat)=setPl [] from rfl,getD_mapd]
 unfold joinsI joinN PL.joinsL
 constructor
 ·rw [List.map_map,List.length_map,List.length_map]
  congr 1
  funext p
  rw [e,e,← join_eq (oks_getD ha _) (oks_getD hb _)]
  rfl
 ·intro m hm
  obtain ⟨p,_,rfl⟩:=List.mem_map.1 hm
  exact ok_join (oks_getD ha _) (oks_getD hb _)
theorem sum_eq (S:List Sti):(((S.map stP).map fun x=>x.moves.length).sum)=sumN S:=by
 unfold sumN
 rw [List.map_map]
 congr 1
 refine List.map_congr_left (fun s _=>?_)
 show (s.moves.map mvP).length=_
 rw [List.length_map]
def cutB (v:List UInt8):Prop:=v=[]∨∃ x,v=41::x
theorem name_cut {n m u v:List UInt8} (hn:∀ c∈n,c≠41) (hm:∀ c∈m,c≠41) (hu:cutB u) (hv:cutB v) (h:n++u=m++v):n=m∧u=v:=by
 induction n generalizing m with
 | nil =>
   cases m with
   | nil=>exact ⟨rfl,h⟩
   | cons c m =>
     exfalso
     rcases hu with rfl | ⟨x,rfl⟩
     ·cases h
     ·cases h;exact hm 41 (List.mem_cons_self ..) rfl
 | cons c n ih =>
   cases m with
   | nil =>
     exfalso
     rcases hv with rfl | ⟨x,rfl⟩
     ·cases h
     ·cases h;exact hn 41 (List.mem_cons_self ..) rfl
   | cons d m =>
     rw [List.cons_append,List.cons_append,List.cons.injEq] at h
     obtain ⟨rfl,h⟩:=h
     obtain ⟨rfl,h2⟩:=ih (fun c hc=>hn c (List.mem_cons_of_mem _ hc)) (fun c hc=>hm c (List.mem_cons_of_mem _ hc)) h
     exact ⟨rfl,h2⟩
theorem name_41 {n:List UInt8} (h:nameB n=true):∀ c∈n,c≠41:=by
 intro c hc e
 subst e
 unfold nameB at h
 rw [Bool.and_eq_true,Bool.and_eq_true] at h
 have:=List.all_eq_true.1 h.1.2 41 hc
 revert this
 decide
theorem key_tt:keyT (tF .tt)=[98]:=rfl
theorem key_ff:keyT (tF .ff)=[99]:=rfl
theorem key_pr (n:List UInt8):keyT (tF (.pr n))=100::n:=by rw [tF,keyT,keyL,List.append_nil];rfl
theorem key_np (n:List UInt8):keyT (tF (.np n))=101::40::100::(n++[41]):=by rw [tF,keyT,keyL,keyL,keyT,keyL,List.append_nil];rfl
theorem key_nx (a:F):keyT (tF (.nx a))=102::40::(keyT (tF a)++[41]):=by rw [tF,keyT,keyL,keyL];rfl
theorem key_an (a b:F):keyT (tF (.an a b))=105::40::(keyT (tF a)++41::40::(keyT (tF b)++[41])):=by rw [tF,keyT,keyL,keyL,keyL];rfl
theorem key_or (a b:F):keyT (tF (.or a b))=106::40::(keyT (tF a)++41::40::(keyT (tF b)++[41])):=by rw [tF,keyT,keyL,keyL,keyL];rfl
theorem key_un (a b:F):keyT (tF (.un a b))=109::40::(keyT (tF a)++41::40::(keyT (tF b)++[41])):=by rw [tF,keyT,keyL,keyL,keyL];rfl
theorem key_re (a b:F):keyT (tF (.re a b))=110::40::(keyT (tF a)++41::40::(keyT (tF b)++[41])):=by rw [tF,keyT,keyL,keyL,keyL];rfl
theorem key_cut:∀ (a b:F) (u v:List UInt8),okF a→okF b→cutB u→cutB v→keyT (tF a)++u=keyT (tF b)++v→a=b∧u=v:=by
 have two:∀ {a b c d:F} {u v:List UInt8},(∀ (q:F) (u v:List UInt8),okF a→okF q→cutB u→cutB v→keyT (tF a)++u=keyT (tF q)++v→a=q∧u=v)→(∀ (q:F) (u v:List UInt8),okF b→okF q→cutB u→cutB v→keyT (tF b)++u=keyT (tF q)++v→b=q∧u=v)→okF a∧okF b→okF c∧okF d →
  (keyT (tF a)++41::40::(keyT (tF b)++[41]))++u=(keyT (tF c)++41::40::(keyT (tF d)++[41]))++v→(a=c∧b=d)∧u=v:=by
  intro a b c d u v iha ihb h k e
  simp only [List.append_assoc,List.cons_append,List.nil_append] at e
  obtain ⟨rfl,e2⟩:=iha c _ _ h.1 k.1 (.inr ⟨_,rfl⟩) (.inr ⟨_,rfl⟩) e
  simp only [List.cons.injEq,true_and] at e2
  obtain ⟨rfl,e3⟩:=ihb d _ _ h.2 k.2 (.inr ⟨_,rfl⟩) (.inr ⟨_,rfl⟩) e2
  simp only [List.cons.injEq,true_and] at e3
  exact ⟨⟨rfl,rfl⟩,e3⟩
 intro a
 induction a with
 | tt=>intro b u v _ _ _ _ h;cases b <;> simp [key_tt,key_ff,key_pr,key_np,key_nx,key_an,key_or,key_un,key_re] at h ⊢;exact h
 | ff=>intro b u v _ _ _ _ h;cases b <;> simp [key_tt,key_ff,key_pr,key_np,key_nx,key_an,key_or,key_un,key_re] at h ⊢;exact h
 | pr n =>
   intro b u v ha hb hu hv h
   cases b <;> simp [key_tt,key_ff,key_pr,key_np,key_nx,key_an,key_or,key_un,key_re] at h ⊢
   exact name_cut (name_41 (ha n (by simp [PL.namesF]))) (name_41 (hb _ (by simp [PL.namesF]))) hu hv h
 | np n =>
   intro b u v ha hb hu hv h
   cases b <;> simp [key_tt,key_ff,key_pr,key_np,key_nx,key_an,key_or,key_un,key_re] at h ⊢
   obtain ⟨h1,h2⟩:=name_cut (name_41 (ha n (by simp [PL.namesF]))) (name_41 (hb _ (by simp [PL.namesF]))) (.inr ⟨_,rfl⟩) (.inr ⟨_,rfl⟩) h
   simp only [List.cons.injEq,true_and] at h2
   exact ⟨h1,h2⟩
 | nx a ih =>
   intro b u v ha hb hu hv h
   cases b <;> simp [key_tt,key_ff,key_pr,key_np,key_nx,key_an,key_or,key_un,key_re] at h ⊢
   obtain ⟨h1,h2⟩:=ih _ _ _ (okF.nx.1 ha) (okF.nx.1 hb) (.inr ⟨_,rfl⟩) (.inr ⟨_,rfl⟩) h
   simp only [List.cons.injEq,true_and] at h2
   exact ⟨h1,h2⟩
 | an a b iha ihb =>
   intro c u v ha hb hu hv h
   cases c <;> simp only [key_tt,key_ff,key_pr,key_np,key_nx,key_an,key_or,key_un,key_re,List.cons_append,List.cons.injEq] at h <;> try exact absurd h.1 (by decide)
   obtain ⟨⟨rfl,rfl⟩,e⟩:=two iha ihb (okF.an.1 ha) (okF.an.1 hb) h.2.2
   exact ⟨rfl,e⟩
 | or a b iha ihb =>
   intro c u v ha hb hu hv h
   cases c <;> simp only [key_tt,key_ff,key_pr,key_np,key_nx,key_an,key_or,key_un,key_re,List.cons_append,List.cons.injEq] at h <;> try exact absurd h.1 (by decide)
   obtain ⟨⟨rfl,rfl⟩,e⟩:=two iha ihb (okF.or.1 ha) (okF.or.1 hb) h.2.2
   exact ⟨rfl,e⟩
 | un a b iha ihb =>
   intro c u v ha hb hu hv h
   cases c <;> simp only [key_tt,key_ff,key_pr,key_np,key_nx,key_an,key_or,key_un,key_re,List.cons_append,List.cons.injEq] at h <;> try exact absurd h.1 (by decide)
   obtain ⟨⟨rfl,rfl⟩,e⟩:=two iha ihb (okF.un.1 ha) (okF.un.1 hb) h.2.2
   exact ⟨rfl,e⟩
 | re a b iha ihb =>
   intro c u v ha hb hu hv h
   cases c <;> simp only [key_tt,key_ff,key_pr,key_np,key_nx,key_an,key_or,key_un,key_re,List.cons_append,List.cons.injEq] at h <;> try exact absurd h.1 (by decide)
   obtain ⟨⟨rfl,rfl⟩,e⟩:=two iha ihb (okF.re.1 ha) (okF.re.1 hb) h.2.2
   exact ⟨rfl,e⟩
theorem key_inj {a b:F} (ha:okF a) (hb:okF b) (h:keyT (tF a)=keyT (tF b)):a=b :=
 (key_cut a b [] [] ha hb (.inl rfl) (.inl rfl) (by rw [h])).1
end Go.Proofs.YtkgfdgfhpdhhaaaGreat
namespace Go.Proofs.YtkgfdgfhpdhhaaaGreat
open Go.ChangeShapes Go.WideShapes Go.RowKit
attribute [local go_sem] Oper.semAt_some
set_option maxRecDepth 100000
set_option maxHeartbeats 8000000
theorem SOwn.empty1 {w V:World} (h2:V=w.alloc (.cells #[.slice none 0 0] 73)) :
 Chg Nob w V∧SOwn V w.heap.size (.slice (some ⟨w.heap.size,0,none⟩) 1 1) [[]] [([],none,0)]:=by
 have a2:Chg Nob w V:=by rw [h2];exact (Chg.refl _ _).alloc _
 refine ⟨a2,?_,rfl,fun y hy=>?_⟩
 ·have:=World.ownsRow_lit (base:=w.heap.size) (e:=73) (size:=1) w #[.slice none 0 0] 1 (Nat.le_refl _) (by unfold maxLen;omega) rfl
  rw [← h2] at this
  exact this
 ·obtain rfl:=List.mem_singleton.1 hy
  exact ⟨by simp,⟨fun i y hi=>by simp at hi,fun e=>absurd rfl e⟩,fun _=>rfl⟩
theorem sets_true {R:Nat→Prop} {mb:Nat} {nv:Value} {L:List (List UInt8)} {t:T} (hk:t.kind=1):SetsC R mb nv L t (fun s=>some ([[]],s)):=by
 intro W D s v hM hok hT _ _ _
 obtain ⟨ao,cap,rfl,hl,-⟩:=hT.parts
 rw [hk]
 obtain ⟨X,hX,hcX,hbX,hsX⟩:=box_cells W #[.int .i64 1,.string ⟨t.name.toArray⟩,.slice ao t.kids.length cap] 24
 obtain ⟨Y,hY,hcY,hbY,hsY⟩:=box_cells X #[.slice none 0 0] 35
 obtain ⟨xb,hxb⟩:∃ xb,xb=W.heap.size:=⟨_,rfl⟩
 rw [← hxb] at hbX hsX
 obtain ⟨Z,hZ⟩:∃ Z,Z=Y.alloc (.cells #[.slice none 0 0] 73):=⟨_,rfl⟩
 have hone:=SOwn.empty1 hZ
 obtain ⟨x0,x1,x2,_⟩:=cells_three (hcY.at hbX (fun e=>e))
 have HM:=Lib.hid (hM.nob ((hcX.trans1 hcY).trans1 hone.1))
 have Hok:=Lib.hid hok
 have Hcx:=Lib.hid ((hcX.trans1 hcY).trans1 hone.1)
 have HDlt:Hid (∀ q,D q→q < W.heap.size):=Lib.hid hM.lt
 have Hxb:=Lib.hid hxb
 have HsY:Hid (Y.heap.size=xb+1+1):=Lib.hid (by rw [hsY,hsX])
 have Hone:=Lib.hid hone.2
 have HY:=Lib.hid hY
 have HZ:=Lib.hid hZ
 clear hM hok hT hl hbX hsX hcX hbY hcY hsY hone hY hZ hxb
 go_enter Tryz.func30,Tryz.ntmps30
 go_upto_region 1 with fail
 rw [← hX,← Hxb.out]
 clear hX
 go_upto_region 2 with fail
 rw [← HY.out]
 go_wp2_with fail
 rw [← HZ.out]
 clear x0 x1 x2
 go_ret
 exact ⟨Hcx.out.any,.inr ⟨_,s,_,D,rfl,rfl,HM.out,fun k hk=> .inl hk,Hok.out,Nat.le_refl _,⟨_,Hone.out.low (by have:=HsY.out;have:=Hxb.out;omega)⟩,fun q hq e=>by
  cases hq
  have h9:Y.heap.size < W.heap.size:=HDlt.out _ e
  have:=HsY.out
  have:=Hxb.out
  omega,by simp,fun m hm=>by rw [List.mem_singleton] at hm;subst hm;exact ⟨List.Pairwise.nil,fun k hk=>by cases hk⟩⟩⟩
theorem sets_false {R:Nat→Prop} {mb:Nat} {nv:Value} {L:List (List UInt8)} {t:T} (hk:t.kind=2):SetsC R mb nv L t (fun s=>some ([],s)):=by
 intro W D s v hM hok hT _ _ _
 obtain ⟨ao,cap,rfl,hl,-⟩:=hT.parts
 rw [hk]
 obtain ⟨X,hX,hcX,hbX,hsX⟩:=box_cells W #[.int .i64 2,.string ⟨t.name.toArray⟩,.slice ao t.kids.length cap] 24
 obtain ⟨Y,hY,hcY,hbY,hsY⟩:=box_cells X #[.slice none 0 0] 35
 obtain ⟨xb,hxb⟩:∃ xb,xb=W.heap.size:=⟨_,rfl⟩
 rw [← hxb] at hbX hsX
 obtain ⟨x0,x1,x2,_⟩:=cells_three (hcY.at hbX (fun e=>e))
 have HM:=Lib.hid (hM.nob (hcX.trans1 hcY))
 have Hok:=Lib.hid hok
 have Hcx:=Lib.hid (hcX.trans1 hcY)
 have Hxb:=Lib.hid hxb
 have HY:=Lib.hid hY
 clear hM hok hT hl hbX hsX hcX hbY hcY hsY hY hxb
 go_enter Tryz.func30,Tryz.ntmps30
 go_upto_region 1 with fail
 rw [← hX,← Hxb.out]
 clear hX
 go_upto_region 2 with fail
 rw [← HY.out]
 go_wp2_with fail
 clear x0 x1 x2
 go_ret
 exact ⟨Hcx.out.any,.inr ⟨_,s,_,D,rfl,rfl,HM.out,fun k hk=> .inl hk,Hok.out,Nat.le_refl _,⟨[],World.ownsRow_nil _ _ _ _,rfl,fun x h=>by cases h⟩,fun q hq e=>by simp [Value.ownBlock] at hq,by simp,fun m hm=>by cases hm⟩⟩
theorem releaseI_none {fa fb:MkS→Option (List Mvi × MkS)} {s s1 s2:MkS} {x y:List Mvi} (h1:fa s=some (x,s1)) (h2:fb s1=some (y,s2)) (h3:bothO y (x++[⟨0,0,[(s2.sts.length:Int)]⟩])=none):releaseI fa fb s=none:=by
 unfold releaseI
 rw [h1,Option.bind_some]
 simp only
 rw [h2,Option.bind_some]
 simp only
 rw [h3]
 rfl
theorem releaseI_some {fa fb:MkS→Option (List Mvi × MkS)} {s s1 s2:MkS} {x y q:List Mvi} (h1:fa s=some (x,s1)) (h2:fb s1=some (y,s2)) (h3:bothO y (x++[⟨0,0,[(s2.sts.length:Int)]⟩])=some q):releaseI fa fb s=some (q,s2):=by
 unfold releaseI
 rw [h1,Option.bind_some]
 simp only
 rw [h2,Option.bind_some]
 simp only
 rw [h3]
 rfl
theorem state_release {R:Nat→Prop} {mb:Nat} {nv:Value} {L:List (List UInt8)} {t ta tb:T} {fa fb:MkS→Option (List Mvi × MkS)} (hk:t.kind=13) (hkids:t.kids=[ta,tb]) (hks:∀ u∈allT t,1≤u.kind∧u.kind≤14) (hsz:(keyT t).length≤1000000000) (ca:WaysC R mb nv L ta fa) (cb:WaysC R mb nv L tb fb) :
 StateC R mb nv L t (stateI (keyT t) false (releaseI fa fb)):=by
 intro W D s v hM hok hT hNm hDR hRW
 obtain ⟨ao,cap,rfl,hl,hkk⟩:=hT.parts
 obtain ⟨b0,o0,ka0,kc0,hao,hRb,a0,a1,a2,hkl0,_,hta⟩:=hkk.kid (j:=0) (t:=ta) (by rw [hkids];rfl)
 obtain ⟨b1,o1,ka1,kc1,hao1,_,e0,e1,e2,hkl1,_,htb⟩:=hkk.kid (j:=1) (t:=tb) (by rw [hkids];rfl)
 subst hao
 cases hao1
 rw [hk,hkids] at hT ⊢
 simp only [Nat.zero_mul,Nat.one_mul,Nat.add_zero] at a0 a1 a2 e0 e1 e2
 rw [show ([ta,tb]:List T).length=2 from rfl] at hT ⊢
 obtain ⟨X,hX,hcX,hbX,hsX⟩:=box_cells W #[.int .i64 13,.string ⟨t.name.toArray⟩,.slice (some ⟨b0,o0,none⟩) 2 cap] 24
 obtain ⟨xb,hxb⟩:∃ xb,xb=W.heap.size:=⟨_,rfl⟩
 rw [← hxb] at hbX hsX
 have hkc:=key_any t hks hsz R X _ (hT.nob hcX)
 obtain ⟨key,hkey⟩:∃ key,key=keyT t:=⟨_,rfl⟩
 rw [← hkey] at hkc hsz ⊢
 have HM:=Lib.hid (hM.nob hcX)
 have Hok:=Lib.hid hok
 have HNm:=Lib.hid (hNm.nob hcX)
 have Hta:=Lib.hid (hta.nob hcX)
 have Htb:=Lib.hid (htb.nob hcX)
 have HDR:=Lib.hid hDR
 have HRX:Hid (∀ q,R q→q < xb):=Lib.hid (fun q hq=>by have:=hRW q hq;omega)
 have HDX:Hid (∀ q,D q→q < xb):=Lib.hid (fun q hq=>by have:=hM.lt q hq;omega)
 have Hsz:=Lib.hid hsz
 have Hcx:=Lib.hid hcX
 have HbX:=Lib.hid hbX
 have Hxs:Hid (X.heap.size=xb+1):=Lib.hid hsX
 have Hxb:=Lib.hid hxb
 have HRb:=Lib.hid hRb
 have Hkey:=Lib.hid hkey
 have HKid:Hid (∀ (S:Nat→Prop) (V:World),Chg S X V→(∀ q,S q→¬ R q)→Kids2 b0 o0 ta tb ka0 kc0 ka1 kc1 V):=(show ∀ (S:Nat→Prop) (V:World),Chg S X V→(∀ q,S q→¬ R q)→Kids2 b0 o0 ta tb ka0 kc0 ka1 kc1 V from fun S V hV hS=>by
  have hn:¬ S b0:=fun e=>hS b0 e hRb
  have f:∀ {p u},W.cell? ⟨b0,p,none⟩=some u→V.cell? ⟨b0,p,none⟩=some u:=fun h=>hV.cell' (hcX.cell' h (fun e=>e)) hn
  exact ⟨⟨f a0,f a1,f a2⟩,f e0,f e1,f e2⟩)
 obtain ⟨x0,x1,x2,_⟩:=cells_three hbX
 rw [hX] at x0 x1 x2
 clear hNm hM hok hta htb hDR hRW hT hkk hl hkids hks hsz hkl0 hkl1 a0 a1 a2 e0 e1 e2 hbX hsX hcX hRb hkey hxb
 go_enter Tryz.func62,Tryz.ntmps62
 go_wp2_with fail
 rw [← hX,← Hxb.out]
 rw [← hX] at x0 x1 x2
 clear hX
 (with_reducible refine hkc.mono ?_)
 clear hkc
 rintro e w1 ⟨rfl,hc1⟩
 have H1:=Lib.hid hc1
 have HM1:=Lib.hid (HM.out.nob hc1)
 obtain ⟨pb,hpb,cn,hlook,hcn⟩:=HM1.out.look key Hsz.out
 clear hc1 x0 x1 x2
 cases hlk:s.num.lookup key with
 | some n =>
   have Hn:Hid (cn=(n:Int)):=Lib.hid (hcn n hlk)
   rw [hlk] at hlook
   have Hlk:=Lib.hid hlk
   clear hcn hlk
   go_wp2_with fail
   go_ret
   exact ⟨(Hcx.out.trans1 H1.out).any,.inr ⟨n,s,_,D,by unfold stateI;rw [Hlk.out],rfl,HM1.out,fun k hk=> .inl hk,Hok.out,Nat.le_refl _,by rw [Hn.out];exact ⟨rfl,Hok.out.1 _ _ Hlk.out⟩⟩⟩
 | none =>
   rw [hlk] at hlook
   have Hlk:=Lib.hid hlk
   clear hcn hlk
   obtain ⟨x0,x1,x2,_⟩:=cells_three (H1.out.at HbX.out (fun e=>e))
   obtain ⟨Y,hY,hcY,hbY,hsY⟩:=box_cells w1 #[.bool false,.slice none 0 0] 69
   obtain ⟨sb,hsb⟩:∃ sb,sb=w1.heap.size:=⟨_,rfl⟩
   rw [← hsb] at hbY hsY
   have HcXY:Hid (Chg Nob X Y):=Lib.hid (H1.out.trans1 hcY)
   have HbY:=Lib.hid hbY
   have HsY:=Lib.hid hsY
   have hkY:=HKid.out Nob Y HcXY.out (fun _ e=>e.elim)
   have HMY:=Lib.hid (HM1.out.nob hcY)
   have hpa:=ca Y D s _ HMY.out Hok.out (Hta.out.nob HcXY.out) (HNm.out.nob HcXY.out) HDR.out (fun q hq=>by have:=HRX.out q hq;have:=HcXY.out.size;have:=Hxs.out;omega)
   have Hxsb:Hid (xb < sb):=(show xb < sb by have:=H1.out.size;have:=Hxs.out;omega)
   obtain ⟨k0,k1⟩:=hkY
   obtain ⟨k00,k01,k02⟩:=k0
   have HbXY:Hid (Y.heap[xb]? = some (.cells #[.int .i64 13,.string ⟨t.name.toArray⟩,.slice (some ⟨b0,o0,none⟩) 2 cap] 24 (0,0))):=Lib.hid (HcXY.out.at HbX.out (fun e=>e))
   obtain ⟨z0,_,z2,_⟩:=cells_three HbXY.out
   clear hcY hbY hsY k1
   go_upto_region 6 with fail
   rw [← hY,← hsb]
   clear hY hlook hpb x0 x1 x2
   have Hsb:=Lib.hid hsb
   clear hsb
   go_wp2_with fail
   (with_reducible refine hpa.mono ?_)
   clear hpa k00 k01 k02 z0 z2
   rintro e w2 ⟨hc2,⟨hf,rfl⟩ | ⟨ma,s1,va,D2,hf,rfl,hM2,hg2,hok2,hle2,⟨xa,hva⟩,hna,hla,hsa⟩⟩
   ·have Hf:=Lib.hid hf
    have Hc2:=Lib.hid hc2
    clear hc2 hf
    go_wp2_with fail
    exact ⟨rfl,(Hcx.out.trans1 HcXY.out).of_mk Hc2.out,.inl ⟨stateI_none Hlk.out (by unfold releaseI;rw [Hf.out];rfl),rfl⟩⟩
   ·have HcX2:Hid (Chg D X w2):=Lib.hid (HcXY.out.of_mk hc2)
    have HDR2:Hid (∀ q,D2 q→¬ R q):=Lib.hid (fun q hq hr=>(hg2 q hq).elim (fun e=>HDR.out q e hr) (fun e=>by have:=HRX.out q hr;have:=HsY.out;have:=Hxsb.out;omega))
    have hcc:=cb w2 D2 s1 _ hM2 hok2 (Htb.out.chg HcX2.out (fun b hb hd=>HDR.out b hd hb)) (HNm.out.chg HcX2.out HDR.out) HDR2.out (fun q hq=>by have:=HRX.out q hq;have:=HcX2.out.size;have:=Hxs.out;omega)
    obtain ⟨-,k30,k31,k32⟩:=HKid.out D w2 HcX2.out HDR.out
    have HbX2:Hid (w2.heap[xb]? = some (.cells #[.int .i64 13,.string ⟨t.name.toArray⟩,.slice (some ⟨b0,o0,none⟩) 2 cap] 24 (0,0))):=Lib.hid (hc2.at HbXY.out (fun e=>by have:=HDX.out _ e;omega))
    have HbS2:Hid (w2.heap[sb]? = some (.cells #[.bool false,.slice none 0 0] 69 (0,0))):=Lib.hid (hc2.at HbY.out (fun e=>by have:=HDX.out _ e;have:=Hxsb.out;omega))
    obtain ⟨z0,_,z2,_⟩:=cells_three HbX2.out
    have Hc2:=Lib.hid hc2
    have HM2:=Lib.hid hM2
    have Hg2:=Lib.hid hg2
    have Hle2:=Lib.hid hle2
    have Hva:=Lib.hid hva
    have Hna:=Lib.hid hna
    have Hla:=Lib.hid hla
    have Hsa:=Lib.hid hsa
    have Hfa:=Lib.hid hf
    clear hc2 hM2 hg2 hle2 hva hna hla hsa hf hok2 ca
    go_wp2_with fail
    (with_reducible refine hcc.mono ?_)
    clear hcc k30 k31 k32 z0 z2
    rintro e w3 ⟨hc3,⟨hf,rfl⟩ | ⟨my,s2,vy,D3,hf,rfl,hM3,hg3,hok3,hle3,⟨ya,hvy⟩,hny,hly,hsy⟩⟩
    ·have Hf:=Lib.hid hf
     have Hc3:=Lib.hid hc3
     clear hc3 hf
     go_wp2_with fail
     exact ⟨rfl,((Hcx.out.trans1 HcXY.out).of_mk Hc2.out).trans Hc3.out (fun i hi e=>(Hg2.out i e).elim id (fun e=>by have:=(Hcx.out.trans1 HcXY.out).size;omega)),.inl ⟨stateI_none Hlk.out (by unfold releaseI;rw [Hfa.out];show Option.bind (fb s1) _=none;rw [Hf.out];rfl),rfl⟩⟩
    ·have HW3:Hid (Chg D W w3):=Lib.hid (((Hcx.out.trans1 HcXY.out).of_mk Hc2.out).trans hc3 (fun i hi e=>(Hg2.out i e).elim id (fun e=>by have:=(Hcx.out.trans1 HcXY.out).size;omega)))
     have Hn2x:Hid (¬ D2 xb∧¬ D2 sb):=(show _∧_ from ⟨fun e=>(Hg2.out _ e).elim (fun e=>by have:=HDX.out _ e;omega) (fun e=>by have:=HsY.out;have:=Hxsb.out;omega),fun e=>(Hg2.out _ e).elim (fun e=>by have:=HDX.out _ e;have:=Hxsb.out;omega) (fun e=>by have:=HsY.out;omega)⟩)
     have HbX3:Hid (w3.heap[xb]? = some (.cells #[.int .i64 13,.string ⟨t.name.toArray⟩,.slice (some ⟨b0,o0,none⟩) 2 cap] 24 (0,0))):=Lib.hid (hc3.at HbX2.out Hn2x.out.1)
     have HbS3:Hid (w3.heap[sb]? = some (.cells #[.bool false,.slice none 0 0] 69 (0,0))):=Lib.hid (hc3.at HbS2.out Hn2x.out.2)
     have Hva3:Hid (MOwn w3 Y.heap.size va ma xa):=Lib.hid (Hva.out.typed hc3 (fun q hq=>Hna.out q hq) HM2.out.ty)
     have Hg3:Hid (∀ q,D3 q→D q∨sb < q):=Lib.hid (fun q hq=>(hg3 q hq).elim (fun e=>(Hg2.out q e).imp id (fun e=>by have:=HsY.out;omega)) (fun e=> .inr (by have:=Hc2.out.size;have:=HsY.out;omega)))
     have Hn3x:Hid (¬ D3 xb∧¬ D3 sb):=(show _∧_ from ⟨fun e=>(Hg3.out _ e).elim (fun e=>by have:=HDX.out _ e;omega) (fun e=>by have:=Hxsb.out;omega),fun e=>(Hg3.out _ e).elim (fun e=>by have:=HDX.out _ e;have:=Hxsb.out;omega) (fun e=>by omega)⟩)
     have Hnva:Hid (∀ q,va.ownBlock=some q→¬ D3 q):=(show ∀ q,va.ownBlock=some q→¬ D3 q from fun q hq e=>by
      rcases hg3 q e with e | e
      ·exact Hna.out q hq e
      ·have:=(Hva.out.own.lt q hq).2;omega)
     have Hvalt:Hid (∀ q,va.ownBlock=some q→q < w2.heap.size):=Lib.hid (fun q hq=>(Hva.out.own.lt q hq).2)
     have Hs3:Hid (Y.heap.size≤w2.heap.size∧w2.heap.size≤w3.heap.size):=(show _∧_ from ⟨Hc2.out.size,hc3.size⟩)
     have Hf2:Hid (fb s1=some (my,s2)):=Lib.hid hf
     obtain ⟨ao3,c3,hlen⟩:=hM3.len
     have HM3:=Lib.hid hM3
     have Hok3:=Lib.hid hok3
     have Hle3:=Lib.hid hle3
     have Hvy:=Lib.hid hvy
     have Hny:=Lib.hid hny
     have Hly:=Lib.hid hly
     have Hsy:=Lib.hid hsy
     have HSA:Hid (∀ m∈ma,SetN s2.sts.length m.to):=Lib.hid (fun m hm=>(Hsa.out m hm).mono hle3)
     have Hle:Hid (s.sts.length≤s2.sts.length):=(show _≤_ from Nat.le_trans Hle2.out hle3)
     obtain ⟨n,hn⟩:∃ n,n=s2.sts.length:=⟨_,rfl⟩
     rw [← hn] at hlen
     have Hn:=Lib.hid hn
     have hn5:n≤4096:=by rw [hn];exact hok3.2.1
     clear hc3 hM3 hok3 hle3 hvy hny hly hsy hf hg3 hn cb
     clear Hc2 HM2 Hg2 Hle2 Hva Hna Hsa HbX2 HbS2 HDR2 Hn2x HcX2 HKid Hta Htb HRb HbXY HbY HM1 HM
     obtain ⟨aa,ca,rfl,-,-⟩:=Hva3.out.min2
     obtain ⟨ay,cy,rfl,-,-⟩:=Hvy.out.min2
     obtain ⟨U1,hU1,hcU1,hbU1,hsU1⟩:=box_cells w3 #[.int .i64 (n:Int)] 3
     obtain ⟨U2,hU2,hcU2,hbU2,hsU2⟩:=box_cells U1 #[.int .u64 0,.int .u64 0,.slice (some ⟨w3.heap.size,0,none⟩) 1 1] 75
     have hown2:=own_min hU1 hU2
     have hcO:=hown2.1
     have hmino:=hown2.2
     have hbS:=hcO.at HbS3.out (fun e=>e)
     have hbX:=hcO.at HbX3.out (fun e=>e)
     have HM4:=Lib.hid (HM3.out.nob hcO)
     have Hvy4:=Lib.hid (Hvy.out.nob hcO)
     have hva4:=Hva3.out.nob hcO
     have HbS4:=Lib.hid hbS
     have HW4:Hid (Chg D W U2):=Lib.hid (HW3.out.trans hcO (fun _ _ e=>e.elim))
     obtain ⟨sl',w5,hrun,hcat,hc5,hob5⟩:=hva4.concat (ms2:=[⟨0,0,[(n:Int)]⟩]) (c:=1) (by have:=Hs3.out;have:=hcO.size;omega) rfl hmino (fun e=>by cases e) (by have:=Hla.out;simp;omega)
     have hn5S:¬ (Value.slice aa ma.length ca).ownBlock=some sb:=fun e=>by
      obtain ⟨cs,m,hb⟩:=ownsRow_block hva4.own sb e
      rw [hbS] at hb
      simp at hb
     have h753:∀ q,(Value.slice aa ma.length ca).ownBlock=some q→∀ cs m,U2.heap[q]?≠some (.cells cs 3 m):=fun q e cs m hb=>by
      obtain ⟨cs',m',hb2⟩:=ownsRow_block hva4.own q e
      rw [hb] at hb2
      simp at hb2
     have HbS6:=Lib.hid (hc5.at hbS hn5S)
     have HM6:Hid (MkIs w5 D3 mb nv s2 (sumN s2.sts)):=Lib.hid (HM4.out.keep hc5 (fun q e=>Hnva.out q e) h753)
     have hlo2:∀ q,(Value.slice ay my.length cy).ownBlock=some q→w2.heap.size≤q:=fun q hq=>(Hvy.out.own.lt q hq).1
     have hup2:∀ q,(Value.slice aa ma.length ca).ownBlock=some q→q < w2.heap.size:=Hvalt.out
     have Hvy6:Hid (MOwn w5 w2.heap.size (.slice ay my.length cy) my ya):=Lib.hid (Hvy4.out.typed hc5 (fun q hq e=>by have:=hlo2 q hq;have:=hup2 q e;omega) h753)
     have HW6:Hid (Chg D W w5):=Lib.hid (HW4.out.trans hc5 (fun i hi e=>by have h1:=(Hva3.out.own.lt i e).1;have:=HsY.out;have:=Hxsb.out;have:=Hxb.out;omega))
     obtain ⟨as',cs',rfl,hmins⟩:=hcat.min
     obtain ⟨ay',cy',ey,hminy⟩:=Hvy6.out.min
     cases ey
     have hcl:(ma++[(⟨0,0,[(n:Int)]⟩:Mvi)]).length=ma.length+1:=by rw [List.length_append];rfl
     have hboth:Calls Tryz.prog 117 #[.pointer (some ⟨mb,0,none⟩),.slice ay my.length cy,.slice as' (ma.length+1) cs'] w5 (BothPost my (ma++[⟨0,0,[(n:Int)]⟩]) w5):=by
      rw [← hcl]
      exact mboth_any Hvy.out.fst hcat.fst (by have:=Hly.out;omega) (by rw [hcl];have:=Hla.out;omega) (fun x hx y hy=>by
       have h1:=(Hsy.out x.1 (by rw [← Hvy.out.fst];exact List.mem_map_of_mem hx)).len
       have h3:=Hn.out
       have h2:y.1.to.length≤n+1:=by
        have hy2:y.1∈ma++[(⟨0,0,[(n:Int)]⟩:Mvi)]:=by rw [← hcat.fst];exact List.mem_map_of_mem hy
        rcases List.mem_append.1 hy2 with h | h
        ·have:=(HSA.out y.1 h).len;omega
        ·rw [List.mem_singleton] at h;rw [h];simp
       omega) hminy hmins
     have Hrun:=Lib.hid hrun
     have Hcl:=Lib.hid hcl
     have hmal:ma.length≤4096:=Hla.out
     obtain ⟨z0,_⟩:=cells_three hbX
     clear hown2 hcO hmino hcU1 hcU2 hbU1 hbU2 HbS3 HbX3 Hva3 hva4 hrun hcat hc5 hob5 hn5S h753 hlo2 hup2 hmins hminy hcl hbS hbX
     go_upto_region 10 with fail
     go_upto_region 11 with fail
     rw [← hU1,← hU2]
     clear hU1 hU2
     try rw [hsU1]
     clear hsU1 hlen
     go_wp2_with (refine wpList_append_known rfl _ _ 67 67 rfl _ _ rfl rfl _ w5 Hrun.out ?_)
     (with_reducible refine hboth.mono ?_)
     clear hboth z0
     rintro e w6 ⟨hc6,⟨hbig,rfl⟩ | ⟨hle6,vq,xq,rfl,hq⟩⟩
     ·have Hc6:=Lib.hid hc6
      have Hbig:=Lib.hid hbig
      clear hc6 hbig
      go_wp2_with fail
      refine ⟨rfl,HW6.out.trans Hc6.out (fun _ _ e=>e.elim),.inl ⟨stateI_none Hlk.out ?_,rfl⟩⟩
      exact releaseI_none Hfa.out Hf2.out (by rw [← Hn.out];exact if_pos Hbig.out)
     ·obtain ⟨ms,hms⟩:∃ ms,ms=leastI (pairsI my (ma++[⟨0,0,[(n:Int)]⟩])) (pairsI my (ma++[⟨0,0,[(n:Int)]⟩])).length:=⟨_,rfl⟩
      rw [← hms] at hq
      have hmsl:ms.length≤4096:=by rw [hms];exact Nat.le_trans (leastI_len _ _) hle6
      have HmsS:Hid (∀ m∈ms,SetN (n+1) m.to):=(show ∀ m∈ms,SetN (n+1) m.to from fun m hm=>by
       rw [hms] at hm
       exact pairsI_set (fun m hm=>(Hsy.out m hm).mono (by have:=Hn.out;omega)) (fun m hm=>by
        rcases List.mem_append.1 hm with hm | hm
        ·exact (HSA.out m hm).mono (by have:=Hn.out;omega)
        ·rw [List.mem_singleton] at hm;subst hm;exact own_set n) m (leastI_mem (Nat.le_refl _) hm))
      have Hraw:Hid (releaseI fa fb s=some (ms,s2)):=Lib.hid (releaseI_some Hfa.out Hf2.out (by rw [← Hn.out,hms];exact if_neg (by omega)))
      obtain ⟨aq,cq,rfl,-,-⟩:=hq.min2
      have hb6:=hc6.at HbS6.out (fun e=>e)
      obtain ⟨t0,t1,tf0,tf1⟩:=cell_two hb6
      obtain ⟨w7,hw7⟩:∃ w7,w7=w6.setCell ⟨sb,1,none⟩ (.slice aq ms.length cq):=⟨_,rfl⟩
      have hc7:Chg (At1 sb) w6 w7:=by rw [hw7];exact (Chg.refl (At1 sb) w6).setCell (p:=⟨sb,1,none⟩) (fun _=>rfl) _
      have hne7:∀ q,At1 sb q→∀ cs t m,w6.heap[q]? = some (.cells cs t m)→t=69:=fun q e cs t m h=>by
       have e:q=sb:=e
       subst e
       rw [hb6] at h
       simp at h
       exact h.2.1.symm
      have HQ:Hid (MOwn w7 w5.heap.size (.slice aq ms.length cq) ms xq):=Lib.hid (hq.typed hc7 (fun q hq2 e=>by
       obtain ⟨cs,m,hb⟩:=ownsRow_block hq.own q hq2
       exact absurd (hne7 q e cs 75 m hb) (by decide)) (fun q e cs m h=>absurd (hne7 q e cs 3 m h) (by decide)))
      have HbS7:Hid (w7.heap[sb]? = some (.cells #[.bool false,.slice aq ms.length cq] 69 (0,0))):=Lib.hid (by rw [hw7];exact block_two_set1 hb6)
      have HM7:Hid (MkIs w7 D3 mb nv s2 (sumN s2.sts)):=Lib.hid ((HM6.out.nob hc6).keep hc7 (fun q e hq2=>by have e:q=sb:=e;subst e;exact Hn3x.out.2 hq2) (fun q e cs m h=>absurd (hne7 q e cs 3 m h) (by decide)))
      have HW7:Hid (Chg D W w7):=Lib.hid ((HW6.out.trans hc6 (fun _ _ e=>e.elim)).trans hc7 (fun i hi e=>by have e:i=sb:=e;have:=Hxsb.out;have:=Hxb.out;omega))
      have Hs7:Hid (w5.heap.size≤w7.heap.size∧W.heap.size≤w5.heap.size):=(show _∧_ from ⟨Nat.le_trans hc6.size hc7.size,HW6.out.size⟩)
      have Hgr:Hid (Grows D D3 W.heap.size):=Lib.hid (fun k hk=>(Hg3.out k hk).imp id (fun e=>by have:=Hxsb.out;have:=Hxb.out;omega))
      clear hc6 hq hb6 hc7 hne7 hms hle6 hmal
      go_upto_region 16 with fail
      rw [← hw7]
      clear hw7 t0 t1 tf0 tf1
      have hsum:=Hok3.out.sum
      obtain ⟨sm,hsm⟩:∃ sm,sm=sumN s2.sts:=⟨_,rfl⟩
      rw [← hsm] at HM7 hsum
      rw [← Hn.out] at hsum
      have Hsm:=Lib.hid hsm
      have hsm5:sm≤16777216:=by omega
      have HM8:Hid (MkIs ((w7.setCell ⟨mb,3,none⟩ (.int .i64 ((sm:Int)+(ms.length:Int)))).drew) D3 mb nv s2 ((sm:Int)+(ms.length:Int))):=Lib.hid ((HM7.out.moves _).nob ((Chg.refl Nob _).drew))
      obtain ⟨m3,mf3,-,hDmb⟩:=HM7.out.mv
      have HDmb:=Lib.hid hDmb
      have hmbsb:mb≠sb:=fun e=>Hn3x.out.2 (e ▸ hDmb)
      have hc8:Chg (At1 mb) w7 ((w7.setCell ⟨mb,3,none⟩ (.int .i64 ((sm:Int)+(ms.length:Int)))).drew):=((Chg.refl (At1 mb) w7).setCell (p:=⟨mb,3,none⟩) (fun _=>rfl) _).drew
      have HbS8:=Lib.hid (hc8.at HbS7.out (fun e=>hmbsb (show mb=sb from (show sb=mb from e).symm)))
      have h62:∀ q,At1 mb q→∀ cs t m,w7.heap[q]? = some (.cells cs t m)→t=62:=fun q e cs t m h=>by
       obtain ⟨_,_,_,_,_,_,_,_,hb,_⟩:=HM7.out
       have e:q=mb:=e
       subst e
       rw [hb] at h
       simp at h
       exact h.2.1.symm
      have HQ8:Hid (MOwn ((w7.setCell ⟨mb,3,none⟩ (.int .i64 ((sm:Int)+(ms.length:Int)))).drew) w5.heap.size (.slice aq ms.length cq) ms xq):=Lib.hid (HQ.out.typed hc8 (fun q hq2 e=>by
       obtain ⟨cs,m,hb⟩:=ownsRow_block HQ.out.own q hq2
       exact absurd (h62 q e cs 75 m hb) (by decide)) (fun q e cs m h=>absurd (h62 q e cs 3 m h) (by decide)))
      have HW8:Hid (Chg D W ((w7.setCell ⟨mb,3,none⟩ (.int .i64 ((sm:Int)+(ms.length:Int)))).drew)):=(show Chg D W _ from HW7.out.trans hc8 (fun i hi e=>by have e:i=mb:=e;subst e;exact (Hgr.out _ HDmb.out).elim id (fun e=>by omega)))
      have Hs8:Hid (w5.heap.size≤((w7.setCell ⟨mb,3,none⟩ (.int .i64 ((sm:Int)+(ms.length:Int)))).drew).heap.size):=(show _≤_ from Nat.le_trans Hs7.out.1 hc8.size)
      obtain ⟨c7a,c7b,_⟩:=cell_two HbS7.out
      clear hsum hsm hDmb hmbsb hc8 h62 c7a
      refine wp_region_free (fun i=>i != 10) (fun w'=>w'.cell? ⟨mb,3,none⟩=some (.int .i64 (sm:Int))∧w'.cell? ⟨sb,1,none⟩=some (.slice aq ms.length cq)) (by kernel_rfl) ⟨m3,c7b⟩ (fun hHeld=>?_)
      refine tkG 0 hHeld ?_
      refine tkG 1 hHeld ?_
      refine tkG 2 hHeld ?_
      refine tkG 3 hHeld ?_
      refine tkG 4 hHeld ?_
      refine tkG 5 hHeld ?_
      refine tkG 6 hHeld ?_
      refine tkB 7 hHeld ?_
      refine rdG 8 fun K hK=>?_
      go_simp
      refine hK.out _ _ (fun _=>hHeld) ?_
      clear hK K
      try simp only [Act.put]
      refine tkG 9 hHeld ?_
      refine rdG 10 fun K hK=>?_
      have h8:=HM8.out
      go_simp
      refine hK.out _ _ (fun h=>absurd h (by decide)) ?_
      clear hK K
      try simp only [Act.put]
      refine wpAnyG_done (by kernel_rfl) ?_ _
      go_simp
      clear hHeld h8 m3 mf3 c7b
      generalize (w7.setCell ⟨mb,3,none⟩ (.int .i64 ((sm:Int)+(ms.length:Int)))).drew=w8 at *
      obtain ⟨m3,-,-,-⟩:=HM8.out.mv
      obtain ⟨a8,c8,hl8⟩:=HM8.out.len
      rw [← Hn.out] at hl8
      by_cases h1:131072 < sm+ms.length
      ·have h1i:(131072:Int) < (sm:Int)+(ms.length:Int):=by omega
       go_wp2_with fail
       exact ⟨rfl,HW8.out,.inl ⟨stateI_many Hlk.out Hraw.out (.inl (by rw [← Hsm.out];omega)),rfl⟩⟩
      ·have h1i:¬ (131072:Int) < (sm:Int)+(ms.length:Int):=by omega
       have h1d:decide ((131072:Int) < (sm:Int)+(ms.length:Int))=false:=decide_eq_false h1i
       by_cases h2:4096≤n
       ·have h2i:(4096:Int)≤(n:Int):=by omega
        go_wp2_with fail
        exact ⟨rfl,HW8.out,.inl ⟨stateI_many Hlk.out Hraw.out (.inr (by rw [← Hn.out];omega)),rfl⟩⟩
       ·have h2i:¬ (4096:Int)≤(n:Int):=by omega
        have h2d:decide ((4096:Int)≤(n:Int))=false:=decide_eq_false h2i
        have h2n:decide (4096≤n)=false:=decide_eq_false h2
        obtain ⟨w9,hw9⟩:∃ w9,w9=w8.drew:=⟨_,rfl⟩
        have hc9:Chg Nob w8 w9:=by rw [hw9];exact (Chg.refl Nob w8).drew
        have hpush:=(HM8.out.nob hc9).push (by have:=Hok3.out.2.1;omega) (HQ8.out.nob hc9) (by omega) false
        obtain ⟨a9,c9,o9,sl',w10,hrun9,⟨g10,c10,rfl⟩,hcell10,hfr9,hcD10,hcD11,D4,hM11,hD4⟩:=hpush
        rw [← Hn.out] at o9 hcell10 hrun9
        have hb9:=hc9.at HbS8.out (fun e=>e)
        obtain ⟨s90,s91,_⟩:=cell_two hb9
        have hcA:Chg Nob w9 (w9.alloc (.cells #[.bool false,.slice aq ms.length cq] 69)):=(Chg.refl _ _).alloc _
        have HS20a:Hid ((w9.alloc (.cells #[.bool false,.slice aq ms.length cq] 69)).cell? ⟨mb,1,none⟩=some (.slice a9 n c9)∧(w9.alloc (.cells #[.bool false,.slice aq ms.length cq] 69)).cell? ⟨sb,0,none⟩=some (.bool false)∧(w9.alloc (.cells #[.bool false,.slice aq ms.length cq] 69)).cell? ⟨sb,1,none⟩=some (.slice aq ms.length cq)):=(show _∧_∧_ from ⟨hcA.cell' o9 (fun e=>e),hcA.cell' s90 (fun e=>e),hcA.cell' s91 (fun e=>e)⟩)
        have HS20b:Hid (w10.cell? ⟨mb,1,none⟩=some (.slice a9 n c9)∧w10.cell? ⟨sb,0,none⟩=some (.bool false)∧w10.cell? ⟨sb,1,none⟩=some (.slice aq ms.length cq)):=(show _∧_∧_ from ⟨hcell10,hcD10.cell' s90 (fun e=>Hn3x.out.2 e),hcD10.cell' s91 (fun e=>Hn3x.out.2 e)⟩)
        obtain ⟨w11,hw11⟩:∃ w11,w11=w10.setCell ⟨mb,1,none⟩ (.slice (some ⟨g10,0,none⟩) (s2.sts.length+1) c10):=⟨_,rfl⟩
        rw [← hw11] at hcD11 hM11
        rw [← Hn.out] at hw11
        have hnum:=hM11.number (by show s2.num.length < (s2.sts++[_]).length;rw [List.length_append];have:=HM8.out.few.1;show s2.num.length < s2.sts.length+1;omega) key Hsz.out n (by omega)
        obtain ⟨pb2,hpb2,w12,hrun12,hM12,hc12⟩:=hnum
        have HWend:Hid (Chg D W w12):=(show Chg D W w12 from ((HW8.out.trans hc9 (fun _ _ e=>e.elim)).trans hcD11 (fun i hi e=>(Hgr.out i e).elim id (fun e=>by omega))).trans hc12 (fun i hi e=>by
         rcases hD4 i e with e | e | e
         ·exact (Hgr.out i e).elim id (fun e=>by omega)
         ·have:=HW8.out.size;have:=hc9.size;omega
         ·have:=(HQ8.out.own.lt i e).1;have:=Hs7.out;omega))
        have HgrE:Hid (Grows D D4 W.heap.size):=(show Grows D D4 W.heap.size from fun k hk=>by
         rcases hD4 k hk with e | e | e
         ·exact Hgr.out k e
         ·exact .inr (by have:=HW8.out.size;have:=hc9.size;omega)
         ·exact .inr (by have:=(HQ8.out.own.lt k e).1;have:=Hs7.out;omega))
        have HMend:Hid (MkIs w12 D4 mb nv ⟨s2.sts++[⟨false,ms⟩],(key,n)::s2.num⟩ (sumN (s2.sts++[(⟨false,ms⟩:Sti)]))):=(show MkIs w12 D4 mb nv _ _ by
         rw [sumN_app,← Hsm.out,show ((sm+ms.length:Nat):Int)=(sm:Int)+(ms.length:Int) by omega]
         exact hM12)
        have Hst:Hid (stateI key false (releaseI fa fb) s=some (n,⟨s2.sts++[⟨false,ms⟩],(key,n)::s2.num⟩)):=(show _=_ by
         rw [Hn.out]
         exact stateI_some Hlk.out Hraw.out (by rw [← Hsm.out,← Hn.out];omega))
        have HokE:Hid (MkOk ⟨s2.sts++[⟨false,ms⟩],(key,n)::s2.num⟩):=(show MkOk _ by
         have:=Hok3.out.push (fin:=false) (ms:=ms) key (by rw [← Hn.out];omega) hmsl (by rw [← Hn.out];exact HmsS.out)
         rw [Hn.out]
         exact this)
        have Hrun9:=Lib.hid hrun9
        have Hfr9:=Lib.hid hfr9
        have Hrun12:=Lib.hid hrun12
        have Hpb2:=Lib.hid hpb2
        have Hw11:=Lib.hid hw11
        have Hw9:=Lib.hid hw9
        rw [hw9] at o9 s90 s91
        clear hrun9 hfr9 hcell10 hcD10 hcD11 hM11 hD4 hb9 hcA hw11 hpb2 hrun12 hM12 hc12 hc9 hw9
        go_wp2_with fail
        clear m3 hl8 h1i h1d h2i h2d h2n
        refine wp_region_free (fun i=>i != 10) (fun w'=>w'.cell? ⟨mb,1,none⟩=some (.slice a9 n c9)∧w'.cell? ⟨sb,0,none⟩=some (.bool false)∧w'.cell? ⟨sb,1,none⟩=some (.slice aq ms.length cq)) (by kernel_rfl) ⟨o9,s90,s91⟩ (fun hHeld=>?_)
        rw [← Hw9.out] at hHeld ⊢
        refine tkG 0 hHeld ?_
        refine tkG 1 hHeld ?_
        refine tkG 2 hHeld ?_
        refine tkG 3 hHeld ?_
        refine tkG 4 hHeld ?_
        refine tkG 5 hHeld ?_
        refine rdG 6 fun K hK=>?_
        go_simp
        refine hK.out _ _ (fun _=>HS20a.out) ?_
        clear hK K
        try simp only [Act.put]
        refine rdG 7 fun K hK=>?_
        refine wp_append_runM (.tmp 114) (.tmp 116) 36 36 rfl _ _ rfl rfl _ _ Hrun9.out ?_
        refine hK.out _ _ (fun _=>HS20b.out) ?_
        clear hK K
        try simp only [Act.put]
        refine rdG 8 fun K hK=>?_
        go_simp
        refine hK.out _ _ (fun _=>HS20b.out) ?_
        clear hK K
        try simp only [Act.put]
        refine tkG 9 HS20b.out ?_
        refine rdG 10 fun K hK=>?_
        have f9:=Hfr9.out
        have o9:=HS20b.out.1
        go_simp
        refine hK.out _ _ (fun h=>absurd h (by decide)) ?_
        clear hK K f9 o9
        try simp only [Act.put]
        refine wpAnyG_done (by kernel_rfl) ?_ _
        go_simp
        clear hHeld o9 s90 s91
        rw [← Hw11.out]
        have hrun12:=Hrun12.out
        have hpb2:=Hpb2.out
        go_wp2_with fail
        go_ret
        exact ⟨HWend.out,.inr ⟨n,_,_,D4,Hst.out,rfl,HMend.out,HgrE.out,HokE.out,by show s.sts.length≤(s2.sts++[_]).length;rw [List.length_append];have:=Hle.out;omega,rfl,by show n < (s2.sts++[_]).length;rw [List.length_append,← Hn.out];exact Nat.lt_succ_self _⟩⟩
end Go.Proofs.YtkgfdgfhpdhhaaaGreat
