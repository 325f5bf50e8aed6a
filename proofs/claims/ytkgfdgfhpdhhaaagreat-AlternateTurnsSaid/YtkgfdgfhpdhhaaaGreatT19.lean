/- Parts of the walks and of the plain theory, the first: Rows of moves behind rows of moves; what the maker's functions promise. Conditions: as each theorem states. -/
import Derived.Test.YtkgfdgfhpdhhaaaGreatT18
import Derived.Test.YtkgfdgfhpdhhaaaGreatT17
import Derived.Test.YtkgfdgfhpdhhaaaGreatT06
namespace Go.Proofs.YtkgfdgfhpdhhaaaGreat
open Go.ChangeShapes Go.WideShapes Go.RowKit
attribute [local go_sem] Oper.semAt_some
theorem MOwn.min2 {W:World} {lo:Nat} {sl:Value} {ms:List Mvi} {xs:List MvS} (h:MOwn W lo sl ms xs):∃ ao c,sl = .slice ao ms.length c∧MIn W ao xs∧(ao=none→c=0):=by
 obtain ⟨ao,c,e,k⟩:=h.min
 refine ⟨ao,c,e,k,?_⟩
 rintro rfl
 rcases h.own.2 with ⟨e2,_⟩ | ⟨g,cap,cur,e2,_⟩
 ·rw [e] at e2
  simp at e2
  exact e2.2
 ·rw [e] at e2
  simp at e2
theorem MIn.cells {W:World} {b o:Nat} {ys:List MvS} (h:∀ j x,ys[j]? = some x→W.cell? ⟨b,o+j * 3,none⟩=some (.int .u64 x.1.yes)∧W.cell? ⟨b,o+j * 3+1,none⟩=some (.int .u64 x.1.no)∧W.cell? ⟨b,o+j * 3+2,none⟩=some (.slice x.2.1 x.1.to.length x.2.2)) (j:Nat) (u:Value) (hj:(ys.flatMap cellsM)[j]? = some u):W.cell? ((⟨b,o,none⟩:Addr).add j)=some u:=by
 have hlen:(ys.flatMap cellsM).length=ys.length * 3:=by
  clear hj h
  induction ys with
  | nil=>rfl
  | cons y ys ih=>rw [List.flatMap_cons,List.length_append,ih];simp [cellsM];omega
 have hlt:=(List.getElem?_eq_some_iff.1 hj).1
 rw [hlen] at hlt
 obtain ⟨i,r,hr,rfl⟩:∃ i r,r < 3∧j=i * 3+r:=⟨j / 3,j % 3,Nat.mod_lt _ (by omega),by omega⟩
 have hi:i < ys.length:=by omega
 rw [flatM_at (List.getElem?_eq_getElem hi) hr] at hj
 obtain ⟨c0,c1,c2⟩:=h i _ (List.getElem?_eq_getElem hi)
 rw [Go.WideShapes.add_plain,← Nat.add_assoc]
 have hr3:r=0∨r=1∨r=2:=by omega
 rcases hr3 with rfl | rfl | rfl
 ·rw [Nat.add_zero,c0];exact hj
 ·rw [c1];exact hj
 ·rw [c2];exact hj
theorem MOwn.concat {W:World} {lo:Nat} {sl:Value} {ms ms2:List Mvi} {xs ys:List MvS} {ao:Option Addr} {c:Nat} (h:MOwn W lo sl ms xs) (hlo:lo≤W.heap.size) (hk:ys.map (·.1)=ms2) (k:MIn W ao ys) (hnil:ao=none→c=0) (hn:ms.length+ms2.length≤1000000) :
 ∃ sl' W',(Builtin.append_ #[67,67] 67 #[sl,.slice ao ms2.length c]).run Tryz.prog W = .ok sl' W'∧MOwn W' lo sl' (ms++ms2) (xs++ys)∧Chg (fun q=>sl.ownBlock=some q) W W'∧∀ q,sl'.ownBlock=some q→sl.ownBlock=some q∨W.heap.size≤q:=by
 obtain ⟨i,hi,hz,hs,hb⟩:=info75_parts
 have hyl:ys.length=ms2.length:=by rw [← hk,List.length_map]
 have hty:∀ q,sl.ownBlock=some q→∀ cs m,W.heap[q]?≠some (.cells cs 3 m):=fun q hq cs m hb=>by
  obtain ⟨cs',m',hb2⟩:=ownsRow_block h.own q hq
  rw [hb] at hb2
  simp at hb2
 have htos:∀ y∈ys,y.1.to.length≤2000000∧TRow W 0 y.2.1 y.1.to∧(y.2.1=none→y.2.2=0):=fun y hy=>by
  obtain ⟨j,hj,rfl⟩:=List.mem_iff_getElem.1 hy
  obtain ⟨_,_,_,_,_,_,r⟩:=k j _ (List.getElem?_eq_getElem hj)
  exact r
 cases ao with
 | none =>
   have hys:ys=[]:=by
    cases ys with
    | nil=>rfl
    | cons y ys=>obtain ⟨_,_,e,_⟩:=k 0 y rfl;cases e
   subst hys
   obtain rfl:ms2=[]:=by rw [← hk];rfl
   obtain rfl:=hnil rfl
   refine ⟨sl,W,run_append_owned_none (P:=Tryz.prog) (w:=W) lo 67 67 75 i 3 Tryz.underlying67 hi sl _ _ h.own,?_,Chg.refl _ _,fun q e=> .inl e⟩
   rw [List.append_nil,List.append_nil]
   exact h
 | some a =>
   have hcell:∀ j u,(ys.flatMap cellsM)[j]? = some u→W.cell? (a.add j)=some u:=by
    cases ys with
    | nil=>intro j u hj;simp at hj
    | cons y ys' =>
      obtain ⟨b,o,e,_⟩:=k 0 y rfl
      cases e
      refine MIn.cells (fun j x hj=>?_)
      obtain ⟨b2,o2,e,c0,c1,c2,_⟩:=k j x hj
      cases e
      exact ⟨c0,c1,c2⟩
   have h1:∀ u∈ys.flatMap cellsM,u.oneCell'=true:=fun u hu=>by
    obtain ⟨y,_,hy⟩:=List.mem_flatMap.1 hu
    exact cellsM_one y u hy
   have hlen:(ys.flatMap cellsM).length=ms2.length * 3:=by
    rw [← hyl]
    clear hcell h1 htos k hk hyl
    induction ys with
    | nil=>rfl
    | cons y ys ih=>rw [List.flatMap_cons,List.length_append,ih];simp [cellsM];omega
   obtain ⟨v',W',hr,h2,h3,_,h5⟩:=run_append_own_at (P:=Tryz.prog) W lo 67 67 75 i _ 3 40 Tryz.underlying67 hi hz hs hb rfl (by decide) sl _ _ h.own a ms2.length c (ys.flatMap cellsM) hlen hcell h1 (by unfold maxLen;omega) (by omega) hlo
   have hc:Chg (fun q=>sl.ownBlock=some q) W W':=(Chg.refl _ _).grown h3 (fun q hq _=>hq)
   refine ⟨v',W',hr,⟨?_,by rw [List.map_append,h.fst,hk],fun y hy=>?_⟩,hc,fun q hq=>?_⟩
   ·rw [List.length_append,List.flatMap_append];exact h2
   ·rcases List.mem_append.1 hy with hy | hy
    ·obtain ⟨p,q,r⟩:=h.tos y hy
     exact ⟨p,q.typed hc hty,r⟩
    ·obtain ⟨p,q,r⟩:=htos y hy
     exact ⟨p,q.typed hc hty,r⟩
   ·rcases h5 with e | e
    ·exact .inl (e ▸ hq)
    ·rw [e] at hq;cases hq;exact .inr (Nat.le_refl _)
def SetN (n:Nat) (l:List Int):Prop:=l.Pairwise (· < ·)∧∀ k∈l,0≤k∧k < (n:Int)
theorem SetN.mono {n m:Nat} {l:List Int} (h:SetN n l) (hn:n≤m):SetN m l:=⟨h.1,fun k hk=>by have:=h.2 k hk;omega⟩
theorem rising_length:∀ {l:List Int} {a b:Int},l.Pairwise (· < ·)→(∀ k∈l,a≤k∧k < b)→a≤b→(l.length:Int)≤b - a
 | [],a,b,_,_,h=>by simp;omega
 | x::l,a,b,h,k,hab=>by
   have h1:=k x (List.mem_cons_self ..)
   rw [List.pairwise_cons] at h
   have:=rising_length (a:=x+1) h.2 (fun z hz=>⟨by have:=h.1 z hz;omega,(k z (List.mem_cons_of_mem _ hz)).2⟩) (by omega)
   rw [List.length_cons]
   omega
theorem SetN.len {n:Nat} {l:List Int} (h:SetN n l):l.length≤n:=by
 have:=rising_length (a:=0) (b:=(n:Int)) h.1 h.2 (by omega)
 omega
def MkOk (s:MkS):Prop:=(∀ k n,s.num.lookup k=some n→n < s.sts.length)∧s.sts.length≤4096∧∀ i st,s.sts[i]? = some st→st.moves.length≤4096∧∀ m∈st.moves,SetN (i+1) m.to
def MkPost {α : Type} (D:Nat→Prop) (mb:Nat) (nv:Value) (W:World) (s:MkS) (r:Option (α × MkS)) (R:(Nat→Prop)→World→Value→α→MkS→Prop) (e:Ending) (W':World):Prop :=
 Chg D W W'∧((r=none∧e = .panicked manyE)∨∃ x s' v D',r=some (x,s')∧e = .returned v∧MkIs W' D' mb nv s' (sumN s'.sts)∧Grows D D' W.heap.size∧MkOk s'∧s.sts.length≤s'.sts.length∧R D' W' v x s')
def WaysR (lo:Nat) (D:Nat→Prop) (W:World) (v:Value) (ms:List Mvi) (s:MkS):Prop :=
 (∃ xs,MOwn W lo v ms xs)∧(∀ q,v.ownBlock=some q→¬ D q)∧ms.length≤4096∧∀ m∈ms,SetN s.sts.length m.to
def SetsR (lo:Nat) (D:Nat→Prop) (W:World) (v:Value) (ls:List (List Int)) (s:MkS):Prop :=
 (∃ xs,SOwn W lo v ls xs)∧(∀ q,v.ownBlock=some q→¬ D q)∧ls.length≤4096∧∀ l∈ls,SetN s.sts.length l
def NumR (_:Nat→Prop) (_:World) (v:Value) (n:Nat) (s:MkS):Prop:=v = .int .i64 (n:Int)∧n < s.sts.length
def NmIs (R:Nat→Prop) (W:World) (nv:Value) (L:List (List UInt8)):Prop:=Texts W nv L∧∀ b o n c,nv = .slice (some ⟨b,o,none⟩) n c→L≠[]→R b
theorem NmIs.chg {R S:Nat→Prop} {W W':World} {nv:Value} {L:List (List UInt8)} (h:NmIs R W nv L) (hc:Chg S W W') (hs:∀ q,S q→¬ R q):NmIs R W' nv L:=by
 obtain ⟨⟨ao,cp,rfl,hl,hx⟩,hb⟩:=h
 refine ⟨⟨ao,cp,rfl,hl,fun j x hj=>?_⟩,hb⟩
 obtain ⟨b,o,rfl,hc2⟩:=hx j x hj
 refine ⟨b,o,rfl,hc.cell' hc2 (fun e=>hs b e (hb b o _ _ rfl (fun e=>by rw [e] at hj;simp at hj)))⟩
theorem NmIs.nob {R:Nat→Prop} {W W':World} {nv:Value} {L:List (List UInt8)} (h:NmIs R W nv L) (hc:Chg Nob W W'):NmIs R W' nv L:=h.chg hc (fun _ e=>e.elim)
def WaysC (R:Nat→Prop) (mb:Nat) (nv:Value) (L:List (List UInt8)) (t:T) (f:MkS→Option (List Mvi × MkS)):Prop:=∀ (W:World) (D:Nat→Prop) (s:MkS) (v:Value),MkIs W D mb nv s (sumN s.sts)→MkOk s→IsTree R W t v→NmIs R W nv L→(∀ q,D q→¬ R q)→(∀ q,R q→q < W.heap.size) →
 Calls Tryz.prog 115 #[.pointer (some ⟨mb,0,none⟩),v] W (MkPost D mb nv W s (f s) (WaysR W.heap.size))
def SetsC (R:Nat→Prop) (mb:Nat) (nv:Value) (L:List (List UInt8)) (t:T) (f:MkS→Option (List (List Int) × MkS)):Prop:=∀ (W:World) (D:Nat→Prop) (s:MkS) (v:Value),MkIs W D mb nv s (sumN s.sts)→MkOk s→IsTree R W t v→NmIs R W nv L→(∀ q,D q→¬ R q)→(∀ q,R q→q < W.heap.size) →
 Calls Tryz.prog 30 #[.pointer (some ⟨mb,0,none⟩),v] W (MkPost D mb nv W s (f s) (SetsR W.heap.size))
def StateC (R:Nat→Prop) (mb:Nat) (nv:Value) (L:List (List UInt8)) (t:T) (f:MkS→Option (Nat × MkS)):Prop:=∀ (W:World) (D:Nat→Prop) (s:MkS) (v:Value),MkIs W D mb nv s (sumN s.sts)→MkOk s→IsTree R W t v→NmIs R W nv L→(∀ q,D q→¬ R q)→(∀ q,R q→q < W.heap.size) →
 Calls Tryz.prog 62 #[.pointer (some ⟨mb,0,none⟩),v] W (MkPost D mb nv W s (f s) NumR)
def leastO (l:List Mvi):Option (List Mvi):=if 4096 < l.length then none else some (leastI l l.length)
def bothO (a b:List Mvi):Option (List Mvi):=if 4096 < (pairsI a b).length then none else some (leastI (pairsI a b) (pairsI a b).length)
def stateI (key:List UInt8) (fin:Bool) (raw:MkS→Option (List Mvi × MkS)):MkS→Option (Nat × MkS):=fun s =>
 match s.num.lookup key with
 | some n=>some (n,s)
 | none=>(raw s).bind fun (ms,s')=>if 131072 < sumN s'.sts+ms.length∨4096≤s'.sts.length then none else some (s'.sts.length,⟨s'.sts++[⟨fin,ms⟩],(key,s'.sts.length)::s'.num⟩)
def untilI (a b:MkS→Option (List Mvi × MkS)):MkS→Option (List Mvi × MkS):=fun s =>
 (a s).bind fun (x,s1)=>(b s1).bind fun (y,s2)=>(bothO x [⟨0,0,[(s2.sts.length:Int)]⟩]).bind fun p=>(leastO (y++p)).map fun q=>(q,s2)
def releaseI (a b:MkS→Option (List Mvi × MkS)):MkS→Option (List Mvi × MkS):=fun s =>
 (a s).bind fun (x,s1)=>(b s1).bind fun (y,s2)=>(bothO y (x++[⟨0,0,[(s2.sts.length:Int)]⟩])).map fun q=>(q,s2)
end Go.Proofs.YtkgfdgfhpdhhaaaGreat
namespace Go.Proofs.YtkgfdgfhpdhhaaaGreat
open Go.ChangeShapes Go.WideShapes Go.RowKit
theorem imem_compact {l:List Int} {x:Int} (h:x∈Lib.compact l):x∈l:=by
 unfold Lib.compact Lib.compactUpTo at h
 rw [List.mem_map] at h
 obtain ⟨i,hi,rfl⟩:=h
 rw [List.mem_filter,List.mem_range] at hi
 rw [getElem!_pos l.toArray i (by simpa using hi.1)]
 simp
theorem compact_rising {l:List Int} (h:l.Pairwise (·≤·)):(Lib.compact l).Pairwise (· < ·):=by
 unfold Lib.compact Lib.compactUpTo
 rw [List.pairwise_map]
 have h1:((List.range l.length).filter (Lib.keeps l.toArray)).Pairwise (· < ·):=List.Pairwise.filter _ List.pairwise_lt_range
 refine h1.imp_of_mem (fun {i j} hi hj hij=>?_)
 rw [List.mem_filter,List.mem_range] at hi hj
 rw [List.pairwise_iff_getElem] at h
 have hj1:j - 1 < l.length:=by omega
 rw [getElem!_pos l.toArray i (by simpa using hi.1),getElem!_pos l.toArray j (by simpa using hj.1)]
 have hk:=hj.2
 unfold Lib.keeps at hk
 rw [getElem!_pos l.toArray j (by simpa using hj.1),getElem!_pos l.toArray (j - 1) (by simpa using hj1)] at hk
 simp only [List.getElem_toArray] at hk ⊢
 have hne:l[j]≠l[j - 1]:=by
  have hj0:j≠0:=by omega
  simpa [hj0] using hk
 have h2:l[j - 1]≤l[j]:=h (j - 1) j hj1 hj.1 (by omega)
 have h3:l[i]≤l[j - 1]:=by
  rcases Nat.lt_or_ge i (j - 1) with e | e
  ·exact h i (j - 1) hi.1 hj1 e
  ·have e:i=j - 1:=by omega
   subst e;exact Int.le_refl _
 omega
theorem joinI_set {n:Nat} {a b:List Int} (ha:SetN n a) (hb:SetN n b):SetN n (joinI a b):=by
 unfold joinI
 refine ⟨compact_rising ?_,fun k hk=>?_⟩
 ·have:=List.pairwise_mergeSort (le:=fun x y:Int=>decide (x≤y)) (fun a b c h k=>by simp at *;omega) (fun a b=>by simp;omega) (a++b)
  exact this.imp (fun h=>by simpa using h)
 ·have hk:=imem_compact hk
  rw [List.mem_mergeSort,List.mem_append] at hk
  exact hk.elim (ha.2 k) (hb.2 k)
theorem prodN_mem {a b:List Mvi} {k:Nat} {m:Mvi} (h:m∈prodN a b k) (hk:k≤a.length * b.length):∃ x∈a,∃ y∈b,pairI x y=some m:=by
 unfold prodN at h
 rw [List.mem_filterMap] at h
 obtain ⟨p,hp,h⟩:=h
 rw [List.mem_range] at hp
 have hb:0 < b.length:=by
  rcases Nat.eq_zero_or_pos b.length with e | e
  ·rw [e,Nat.mul_zero] at hk;omega
  ·exact e
 have h1:p / b.length < a.length:=by rw [Nat.div_lt_iff_lt_mul hb];omega
 have h2:p % b.length < b.length:=Nat.mod_lt _ hb
 unfold atP at h
 rw [List.getD_eq_getElem?_getD,List.getD_eq_getElem?_getD,List.getElem?_eq_getElem h1,List.getElem?_eq_getElem h2] at h
 exact ⟨_,List.getElem_mem h1,_,List.getElem_mem h2,h⟩
theorem pairI_to {x y m:Mvi} (h:pairI x y=some m):m.to=joinI x.to y.to:=by
 unfold pairI at h
 split at h
 ·cases h;rfl
 ·cases h
theorem pairsI_set {n:Nat} {a b:List Mvi} (ha:∀ m∈a,SetN n m.to) (hb:∀ m∈b,SetN n m.to):∀ m∈pairsI a b,SetN n m.to:=fun m hm=>by
 obtain ⟨x,hx,y,hy,h⟩:=prodN_mem hm (Nat.le_refl _)
 rw [pairI_to h]
 exact joinI_set (ha x hx) (hb y hy)
theorem leastI_mem {l:List Mvi} {n:Nat} (hn:n≤l.length) {m:Mvi} (h:m∈leastI l n):m∈l:=by
 unfold leastI at h
 rw [List.mem_map] at h
 obtain ⟨i,hi,rfl⟩:=h
 rw [List.mem_filter,List.mem_range] at hi
 have h1:i < l.length:=by omega
 rw [List.getD_eq_getElem?_getD,List.getElem?_eq_getElem h1]
 exact List.getElem_mem h1
theorem leastI_len (l:List Mvi) (n:Nat):(leastI l n).length≤n:=by
 unfold leastI
 rw [List.length_map]
 have:=List.length_filter_le (fun i=>keepI l i l.length) (List.range n)
 rwa [List.length_range] at this
end Go.Proofs.YtkgfdgfhpdhhaaaGreat
namespace Go.Proofs.YtkgfdgfhpdhhaaaGreat
open Go.ChangeShapes Go.WideShapes Go.RowKit Go.Shelf
theorem Tryz.info34:(Tryz.prog.info? 34).map (fun i=>(i.zero,i.size,i.bytes))=some (some (.slice none 0 0),1,24):=by kernel_rfl
theorem info116_parts:∃ i,Tryz.prog.info? 34=some i∧i.zero=some (.slice none 0 0)∧i.size=1∧i.bytes=24:=by
 have h:=Tryz.info34
 cases hi:Tryz.prog.info? 34 with
 | none=>rw [hi] at h;simp at h
 | some i=>rw [hi] at h;simp at h;exact ⟨i,rfl,h.1,h.2.1,h.2.2⟩
theorem append116 {B:Nat} {w:World} {v:Value} {n:Nat} {xs:List Value} {g c:Nat} {y:Value} (h:w.ownsRow B 34 1 v n xs) (hB:B≤w.heap.size) (hn:n≤1000000) (hy:∃ a k m,y = .slice a k m) (hg:w.heap[g]? = some (.cells #[y] c (0,0))) :
 ∃ g' cap w',(Builtin.append_ #[66,66] 66 #[v,.slice (some ⟨g,0,none⟩) 1 1]).run Tryz.prog w = .ok (.slice (some ⟨g',0,none⟩) (n+1) cap) w'∧w'.ownsRow B 34 1 (.slice (some ⟨g',0,none⟩) (n+1) cap) (n+1) (xs++[y])∧w.grownBy w' v.ownBlock∧(v.ownBlock=some g'∨g'=w.heap.size)∧g' < w'.heap.size:=by
 obtain ⟨i,hi,hz,hs,hb⟩:=info116_parts
 obtain ⟨a,k,m,rfl⟩:=hy
 exact run_append_lies (P:=Tryz.prog) w 66 66 B 34 i _ 1 24 Tryz.underlying66 hi hz hs hb rfl (by decide) v n _ h ⟨g,0,none⟩ 1 1 [.slice a k m] rfl
  (fun j u hj=>by rw [Go.WideShapes.add_plain,Nat.zero_add];exact cell_row hg j (by simpa using hj)) (by intro u hu;simp at hu;subst hu;rfl) (by decide) (by unfold maxLen;omega) (by omega) hB _ rfl
def rowV (n:Nat) (g:Nat):Value:= .slice (some ⟨g,0,none⟩) n n
structure WhRow (n lo:Nat) (tr:List (List Bool)) (j:Nat) (sl:Value) (gs:List Nat) (wr:World):Prop where
 len:gs.length=j
 row:wr.ownsRow lo 34 1 sl j (gs.map (rowV n))
 blk:∀ (i g:Nat) (x:List Bool),gs[i]? = some g→tr[i]? = some x→BBlk wr g x∧lo≤g∧sl.ownBlock≠some g
theorem WhRow.chg {S:Nat→Prop} {n lo:Nat} {tr:List (List Bool)} {j:Nat} {sl:Value} {gs:List Nat} {W W':World} (h:WhRow n lo tr j sl gs W) (hc:Chg S W W') (hn:∀ q,lo≤q→¬ S q):WhRow n lo tr j sl gs W' :=
 ⟨h.len,ownsRow_chg h.row hc (fun q hq=>hn q (h.row.lt q hq).1),fun i g x h1 h2=>by obtain ⟨a,b,c⟩:=h.blk i g x h1 h2;exact ⟨a.chg hc (hn g b),b,c⟩⟩
theorem WhRow.next {n lo:Nat} {tr:List (List Bool)} {j:Nat} {sl:Value} {gs:List Nat} {wr w4 w6:World} {x:List Bool} {g g' cap:Nat} (h:WhRow n lo tr j sl gs wr) (hlo:lo≤wr.heap.size) (hx:tr[j]? = some x)
 (hc4:Chg Nob wr w4) (hg:wr.heap.size≤g) (hb:BBlk w4 g x)
 (hr6:w6.ownsRow lo 34 1 (.slice (some ⟨g',0,none⟩) (j+1) cap) (j+1) (gs.map (rowV n)++[rowV n g])) (hgr:(w4.alloc (.cells #[rowV n g] 34)).grownBy w6 sl.ownBlock) (hlies:sl.ownBlock=some g'∨g'=(w4.alloc (.cells #[rowV n g] 34)).heap.size) :
 WhRow n lo tr (j+1) (.slice (some ⟨g',0,none⟩) (j+1) cap) (gs++[g]) w6∧Chg (fun q=>sl.ownBlock=some q) wr w6:=by
 have hz4:=hc4.size
 have hz5:(w4.alloc (.cells #[rowV n g] 34)).heap.size=w4.heap.size+1:=World.size_alloc _ _
 have hown:∀ q,sl.ownBlock=some q→lo≤q∧q < wr.heap.size:=fun q hq=>h.row.lt q hq
 have hc46:Chg (fun q=>sl.ownBlock=some q) w4 w6:=((Chg.refl Nob w4).alloc _).any.trans1 ((Chg.refl _ _).grown hgr (fun q hq _=>hq))
 have hcr6:Chg (fun q=>sl.ownBlock=some q) wr w6:=hc4.any.trans1 hc46
 have hglt:=hb.lt
 refine ⟨⟨by rw [List.length_append,h.len];rfl,by rw [List.map_append];exact hr6,fun i u y hu hy=>?_⟩,hcr6⟩
 by_cases hij:i < gs.length
 ·rw [List.getElem?_append_left hij] at hu
  obtain ⟨h1,h2,h3⟩:=h.blk i u y hu hy
  refine ⟨h1.chg hcr6 h3,h2,fun e=>?_⟩
  have e:g'=u:=by simpa [Value.ownBlock] using e
  have:=h1.lt
  rcases hlies with e2 | e2
  ·exact h3 (by rw [e2,e])
  ·omega
 ·have hi2:i=gs.length:=by
   have:=(List.getElem?_eq_some_iff.1 hu).1
   rw [List.length_append] at this
   simp only [List.length_cons,List.length_nil] at this
   omega
  subst hi2
  rw [List.getElem?_append_right (Nat.le_refl _),Nat.sub_self] at hu
  obtain rfl:g=u:=by simpa using hu
  rw [h.len,hx] at hy
  cases hy
  refine ⟨hb.chg hc46 (fun e=>by have:=hown g e;omega),by omega,fun e=>?_⟩
  have e:g'=g:=by simpa [Value.ownBlock] using e
  rcases hlies with e2 | e2
  ·have:=hown g' e2;omega
  ·omega
theorem WhRow.at {n lo:Nat} {tr:List (List Bool)} {m:Nat} {sl:Value} {gs:List Nat} {W:World} (h:WhRow n lo tr m sl gs W) {i:Nat} (hi:i < m) {x:List Bool} (hx:tr[i]? = some x) :
 ∃ r c g,sl = .slice (some ⟨r,0,none⟩) m c∧lo≤r∧W.cell? ⟨r,i,none⟩=some (.slice (some ⟨g,0,none⟩) n n)∧BBlk W g x:=by
 obtain ⟨r,c,rfl,hc⟩:=ownsRow_some h.row (by omega)
 have hil:i < gs.length:=by rw [h.len];exact hi
 obtain ⟨h1,h2,h3⟩:=h.blk i gs[i] x (List.getElem?_eq_getElem hil) hx
 have hr:=hc i (rowV n gs[i]) (by rw [List.getElem?_map,List.getElem?_eq_getElem hil];rfl)
 rw [Go.WideShapes.add_plain,Nat.zero_add] at hr
 exact ⟨r,c,gs[i],rfl,(h.row.lt r rfl).1,hr,h1⟩
def whereN (nr:List UInt8→List Bool) (np n:Nat) (k:Int) (nm:List UInt8) (l:List (List Bool)):List Bool :=
 if k=1 then List.replicate n true else if k=2 then List.replicate n false else if k=3 then nr nm
 else if k=4 then (List.range n).map (fun i=>!((l.getD 0 []).getD i false))
 else if k=5 then (List.range n).map (fun i=>(l.getD 0 []).getD (nextN np n i) false)
 else if k=6 then fixL np n (List.replicate n false) (l.getD 0 []) true
 else if k=7 then fixL np n (l.getD 0 []) (List.replicate n true) false
 else if k=8 then List.zipWith (fun x y=>x&&y) (l.getD 0 []) (l.getD 1 [])
 else if k=9 then List.zipWith (fun x y=>x || y) (l.getD 0 []) (l.getD 1 [])
 else if k=10 then List.zipWith (fun x y=>!x || y) (l.getD 0 []) (l.getD 1 [])
 else if k=11 then List.zipWith (fun x y=>x==y) (l.getD 0 []) (l.getD 1 [])
 else if k=12 then fixL np n (l.getD 1 []) (l.getD 0 []) false
 else if k=13 then fixL np n (List.zipWith (fun x y=>x&&y) (l.getD 0 []) (l.getD 1 [])) (l.getD 1 []) true
 else fixL np n (l.getD 1 []) (l.getD 0 []) true
mutual
def whereT (nr:List UInt8→List Bool) (np n:Nat):T→List Bool
 | .node k nm kids=>whereN nr np n k nm (whereL nr np n kids)
def whereL (nr:List UInt8→List Bool) (np n:Nat):List T→List (List Bool)
 | []=>[]
 | t::ts=>whereT nr np n t::whereL nr np n ts
end
theorem whereL_map (nr:List UInt8→List Bool) (np n:Nat):∀ l:List T,whereL nr np n l=l.map (whereT nr np n)
 | []=>by rw [whereL];rfl
 | t::ts=>by rw [whereL,whereL_map nr np n ts];rfl
theorem whereT_eq (nr:List UInt8→List Bool) (np n:Nat) (t:T):whereT nr np n t=whereN nr np n t.kind t.name (t.kids.map (whereT nr np n)):=by
 cases t with
 | node k nm kids=>rw [whereT,whereL_map];rfl
theorem sweepTo_len (np n:Nat) (A B:List Bool):∀ (m:Nat) (L:List Bool),(sweepTo np n A B m L).length=L.length
 | 0,_=>rfl
 | m+1,L=>by rw [sweepTo,sweepTo_len np n A B m,updL,List.length_set]
theorem fixL_len (np n:Nat) (A B:List Bool) (b:Bool):(fixL np n A B b).length=n:=by
 unfold fixL
 rw [sweepTo_len,sweepTo_len,List.length_replicate]
theorem kids_two {t:T} (h:mayT t=true) (hk:8≤t.kind):∃ a b,t.kids=[a,b]:=by
 rw [mayT_eq,Bool.and_eq_true] at h
 have h1:=h.1
 unfold okNode at h1
 rw [Bool.and_eq_true,decide_eq_true_eq] at h1
 have h2:=h1.1
 unfold kidsOf at h2
 have h3:t.kids.length=2:=by
  repeat' split at h2
  all_goals omega
 match hkk:t.kids,h3 with
 | [a,b],_=>exact ⟨a,b,rfl⟩
theorem may_kids {t:T} (h:mayT t=true):∀ u∈t.kids,mayT u=true:=by
 intro u hu
 rw [mayT_eq,Bool.and_eq_true] at h
 obtain ⟨j,hj⟩:=List.getElem?_of_mem hu
 cases hm:mayT u with
 | true=>rfl
 | false=>rw [mayL_not hj hm] at h;exact absurd h.2 (by decide)
end Go.Proofs.YtkgfdgfhpdhhaaaGreat
