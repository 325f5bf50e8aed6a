/- What the maker makes, plain: the automaton made of a formula accepts the words of which it holds. No condition beyond what each theorem states. -/
import Derived.Test.YtkgfdgfhpdhhaaaGreatT14
import Derived.Test.YtkgfdgfhpdhhaaaGreatT19
import Derived.Test.YtkgfdgfhpdhhaaaGreatT21
namespace Go.Proofs.YtkgfdgfhpdhhaaaGreat.PL
def joinL (a b:List Nat):List Nat:=(joinI (a.map Int.ofNat) (b.map Int.ofNat)).map Int.toNat
def withinL (a b:List Nat):Bool:=a.all fun x=>b.contains x
def lessS (l:List (List Nat)) (k i:Nat):Bool:=(k != i)&&(withinL (l.getD k []) (l.getD i [])&&(decide ((l.getD k []).length < (l.getD i []).length) || decide (k < i)))
def fewestL (l:List (List Nat)):List (List Nat):=((List.range l.length).filter fun i=>(List.range l.length).all fun k=>!lessS l k i).map fun i=>l.getD i []
def mv0:Mv:=⟨0,0,[]⟩
def coversM (a b:Mv):Bool:=(a.yes &&& ~~~b.yes==0)&&(a.no &&& ~~~b.no==0)&&withinL a.to b.to
def leastL (l:List Mv):List Mv:=((List.range l.length).filter fun i=>(List.range l.length).all fun k=>(k==i) || (!coversM (l.getD k mv0) (l.getD i mv0) || (decide (i < k)&&coversM (l.getD i mv0) (l.getD k mv0)))).map fun i=>l.getD i mv0
def pairM (x y:Mv):Option Mv:=if (x.yes ||| y.yes) &&& (x.no ||| y.no)==0 then some ⟨x.yes ||| y.yes,x.no ||| y.no,joinL x.to y.to⟩ else none
def prodL (a b:List Mv):List Mv:=(List.range (a.length * b.length)).filterMap fun p=>pairM (a.getD (p / b.length) mv0) (b.getD (p % b.length) mv0)
def joinsL (a b:List (List Nat)):List (List Nat):=(List.range (a.length * b.length)).map fun p=>joinL (a.getD (p / b.length) []) (b.getD (p % b.length) [])
structure Mk where
 sts:List Sta
 num:List (F × Nat)
def movesN (s:Mk):Nat:=(s.sts.map fun x=>x.moves.length).sum
def leastM (l:List Mv):Option (List Mv):=if 4096 < l.length then none else some (leastL l)
def bothM (a b:List Mv):Option (List Mv):=if 4096 < (prodL a b).length then none else some (leastL (prodL a b))
def fewestM (l:List (List Nat)):Option (List (List Nat)):=if 4096 < l.length then none else some (fewestL l)
abbrev Ways:=Mk→Option (List Mv × Mk)
abbrev Sets:=Mk→Option (List (List Nat) × Mk)
abbrev Num:=Mk→Option (Nat × Mk)
def stateOf (t:F) (fin:Bool) (raw:Ways):Num:=fun s =>
 match s.num.lookup t with
 | some n=>some (n,s)
 | none=>(raw s).bind fun (ms,s')=>if 131072 < movesN s'+ms.length∨4096≤s'.sts.length then none else some (s'.sts.length,⟨s'.sts++[⟨ms,fin⟩],(t,s'.sts.length)::s'.num⟩)
def oneSet (st:Num):Sets:=fun s=>(st s).map fun (n,s')=>([[n]],s')
def cloneOf (st:Num):Ways:=fun s=>(st s).map fun (n,s')=>((staN s'.sts n).moves,s')
def seqW {α : Type} (a b:Mk→Option (α × Mk)) (f : α→α→Mk→Option (α × Mk)):Mk→Option (α × Mk):=fun s=>(a s).bind fun (x,s1)=>(b s1).bind fun (y,s2)=>f x y s2
def ownM (n:Nat):Mv:=⟨0,0,[n]⟩
def untilW (a b:Ways):Ways:=seqW a b fun x y s=>(bothM x [ownM s.sts.length]).bind fun p=>(leastM (y++p)).map fun q=>(q,s)
def releaseW (a b:Ways):Ways:=seqW a b fun x y s=>(bothM y (x++[ownM s.sts.length])).map fun q=>(q,s)
def bitM (names:List (List UInt8)) (n:List UInt8):BitVec 64:=1#64 <<< names.idxOf n
structure Fns where
 sets:Sets
 ways:Ways
def plainFns (t:F) (w:Ways):Fns:=⟨oneSet (stateOf t false w),w⟩
def keptFns (t:F) (fin:Bool) (raw:Ways):Fns:=⟨oneSet (stateOf t fin raw),cloneOf (stateOf t fin raw)⟩
def mkF (names:List (List UInt8)):F→Fns
 | .tt=>⟨fun s=>some ([[]],s),fun s=>some ([mv0],s)⟩
 | .ff=>⟨fun s=>some ([],s),fun s=>some ([],s)⟩
 | .pr n=>plainFns (.pr n) fun s=>some ([⟨bitM names n,0,[]⟩],s)
 | .np n=>plainFns (.np n) fun s=>some ([⟨0,bitM names n,[]⟩],s)
 | .nx a=>plainFns (.nx a) fun s=>((mkF names a).sets s).map fun (l,s')=>(l.map fun x=>⟨0,0,x⟩,s')
 | .an a b=>⟨seqW (mkF names a).sets (mkF names b).sets fun x y s=>(fewestM (joinsL x y)).map fun l=>(l,s),seqW (mkF names a).ways (mkF names b).ways fun x y s=>(bothM x y).map fun l=>(l,s)⟩
 | .or a b=>⟨seqW (mkF names a).sets (mkF names b).sets fun x y s=>(fewestM (x++y)).map fun l=>(l,s),seqW (mkF names a).ways (mkF names b).ways fun x y s=>(leastM (x++y)).map fun l=>(l,s)⟩
 | .un a b=>keptFns (.un a b) true (untilW (mkF names a).ways (mkF names b).ways)
 | .re a b=>keptFns (.re a b) false (releaseW (mkF names a).ways (mkF names b).ways)
theorem mem_joinI {x:Int} {a b:List Int}:x∈joinI a b↔x∈a∨x∈b:=by
 unfold joinI
 rw [← List.mem_append]
 exact ⟨fun h=>List.mem_mergeSort.1 (imem_compact h),fun h=>mem_compact (List.mem_mergeSort.2 h)⟩
theorem joinI_rising (a b:List Int):(joinI a b).Pairwise (· < ·):=by
 unfold joinI
 refine compact_rising ?_
 have:=List.pairwise_mergeSort (le:=fun x y:Int=>decide (x≤y)) (fun a b c h k=>by simp at *;omega) (fun a b=>by simp;omega) (a++b)
 exact this.imp (fun h=>by simpa using h)
theorem mem_joinL {x:Nat} {a b:List Nat}:x∈joinL a b↔x∈a∨x∈b:=by
 unfold joinL
 rw [List.mem_map]
 constructor
 ·rintro ⟨k,hk,rfl⟩
  rcases mem_joinI.1 hk with hk | hk <;> (obtain ⟨n,hn,rfl⟩:=List.mem_map.1 hk)
  ·exact .inl hn
  ·exact .inr hn
 ·rintro (h | h)
  ·exact ⟨(x:Int),mem_joinI.2 (.inl (List.mem_map.2 ⟨x,h,rfl⟩)),rfl⟩
  ·exact ⟨(x:Int),mem_joinI.2 (.inr (List.mem_map.2 ⟨x,h,rfl⟩)),rfl⟩
theorem sorted_joinL (a b:List Nat):(joinL a b).Pairwise (· < ·):=by
 unfold joinL
 rw [List.pairwise_map]
 refine (joinI_rising _ _).imp_of_mem (fun {x y} hx hy h=>?_)
 have h0:∀ z∈joinI (a.map Int.ofNat) (b.map Int.ofNat),0≤z:=fun z hz=>by
  rcases mem_joinI.1 hz with hz | hz <;> (obtain ⟨n,_,rfl⟩:=List.mem_map.1 hz;exact Int.natCast_nonneg n)
 have:=h0 x hx
 have:=h0 y hy
 omega
theorem withinL_iff {a b:List Nat}:withinL a b=true↔∀ x∈a,x∈b:=by
 unfold withinL
 rw [List.all_eq_true]
 exact forall_congr' fun x=>forall_congr' fun _=>List.contains_iff_mem
def satS (R:Nat→Prop) (l:List (List Nat)):Prop:=∃ s∈l,∀ k∈s,R k
theorem mem_kept {α : Type} {l:List α} {p:Nat→Bool} {d x : α}:x∈((List.range l.length).filter p).map (fun i=>l.getD i d)↔∃ i,i < l.length∧p i=true∧l[i]? = some x:=by
 rw [List.mem_map]
 constructor
 ·rintro ⟨i,hi,rfl⟩
  rw [List.mem_filter,List.mem_range] at hi
  exact ⟨i,hi.1,hi.2,by rw [List.getD_eq_getElem?_getD,List.getElem?_eq_getElem hi.1];rfl⟩
 ·rintro ⟨i,hi,hp,hx⟩
  exact ⟨i,by rw [List.mem_filter,List.mem_range];exact ⟨hi,hp⟩,by rw [List.getD_eq_getElem?_getD,hx];rfl⟩
theorem fewestL_sub {l:List (List Nat)} {s:List Nat} (h:s∈fewestL l):s∈l:=by
 obtain ⟨i,hi,_,hx⟩:=mem_kept.1 h
 exact List.mem_of_getElem? hx
theorem nodup_sub_length {a:List Nat}:∀ {b:List Nat},a.Nodup→(∀ x∈a,x∈b)→a.length≤b.length:=by
 induction a with
 | nil=>intro b _ _;exact Nat.zero_le _
 | cons y a ih =>
   intro b ha h
   rw [List.nodup_cons] at ha
   have hy:=h y (List.mem_cons_self ..)
   have:=ih (b:=b.erase y) ha.2 (fun x hx=>(List.mem_erase_of_ne (fun e=>by subst e;exact ha.1 hx)).2 (h x (List.mem_cons_of_mem _ hx)))
   rw [List.length_erase_of_mem hy] at this
   have:=List.length_pos_of_mem hy
   rw [List.length_cons]
   omega
theorem fewestL_sat {R:Nat→Prop} {l:List (List Nat)} (hn:∀ s∈l,s.Nodup):satS R (fewestL l)↔satS R l:=by
 constructor
 ·rintro ⟨s,hs,h⟩
  exact ⟨s,fewestL_sub hs,h⟩
 ·rintro ⟨s,hs,h⟩
  obtain ⟨i,hi,hsi⟩:=List.getElem_of_mem hs
  have key:∀ (q:Nat) (i:Nat) (hi:i < l.length),l[i].length * l.length+i≤q→(∀ k∈l[i],R k)→satS R (fewestL l):=by
   intro q
   induction q using Nat.strongRecOn with
   | ind q ih =>
     intro i hi hq hR
     by_cases hp:((List.range l.length).all fun k=>!lessS l k i)=true
     ·exact ⟨l[i],mem_kept.2 ⟨i,hi,hp,List.getElem?_eq_getElem hi⟩,hR⟩
     ·rw [List.all_eq_true] at hp
      obtain ⟨k,hk⟩:=Classical.not_forall.1 hp
      obtain ⟨hk,hl⟩:=Classical.not_imp.1 hk
      rw [List.mem_range] at hk
      simp only [Bool.not_eq_true',Bool.not_eq_false] at hl
      unfold lessS at hl
      rw [Bool.and_eq_true,Bool.and_eq_true,Bool.or_eq_true,withinL_iff,decide_eq_true_iff,decide_eq_true_iff,List.getD_eq_getElem?_getD,List.getD_eq_getElem?_getD,List.getElem?_eq_getElem hk,List.getElem?_eq_getElem hi] at hl
      obtain ⟨_,hw,hlt⟩:=hl
      have hle:l[k].length≤l[i].length:=nodup_sub_length (hn _ (List.getElem_mem hk)) hw
      have hlt:l[k].length < l[i].length∨k < i:=hlt
      refine ih (l[k].length * l.length+k) ?_ k hk (Nat.le_refl _) (fun x hx=>hR x (hw x hx))
      rcases Nat.lt_or_ge l[k].length l[i].length with h1 | h1
      ·have:(l[k].length+1) * l.length≤l[i].length * l.length:=Nat.mul_le_mul_right _ h1
       rw [Nat.succ_mul] at this
       omega
      ·have e:l[k].length=l[i].length:=by omega
       rw [e];omega
  exact key _ i hi (Nat.le_refl _) (by rw [hsi];exact h)
def satM (R:Nat→Prop) (x:BitVec 64) (l:List Mv):Prop:=∃ m∈l,hasM m x=true∧∀ k∈m.to,R k
theorem satM_append {R:Nat→Prop} {x:BitVec 64} {a b:List Mv}:satM R x (a++b)↔satM R x a∨satM R x b:=by
 unfold satM
 constructor
 ·rintro ⟨m,hm,h⟩
  rcases List.mem_append.1 hm with hm | hm
  ·exact .inl ⟨m,hm,h⟩
  ·exact .inr ⟨m,hm,h⟩
 ·rintro (⟨m,hm,h⟩ | ⟨m,hm,h⟩)
  ·exact ⟨m,List.mem_append.2 (.inl hm),h⟩
  ·exact ⟨m,List.mem_append.2 (.inr hm),h⟩
theorem sub_iff {a b:BitVec 64}:(a &&& ~~~b==0)=true↔∀ j:Nat,a.getLsbD j=true→b.getLsbD j=true:=by
 rw [beq_iff_eq]
 constructor
 ·intro h j hj
  have:=congrArg (fun b=>b.getLsbD j) h
  have hlt:j < 64:=BitVec.lt_of_getLsbD hj
  simp [hj,hlt] at this
  exact this
 ·intro h
  refine BitVec.eq_of_getLsbD_eq (fun j hj=>?_)
  rw [BitVec.getLsbD_and,BitVec.getLsbD_not]
  cases ha:a.getLsbD j with
  | true=>rw [h j ha];simp
  | false=>simp
theorem coversM_iff {a b:Mv}:coversM a b=true↔(∀ j:Nat,a.yes.getLsbD j=true→b.yes.getLsbD j=true)∧(∀ j:Nat,a.no.getLsbD j=true→b.no.getLsbD j=true)∧∀ k∈a.to,k∈b.to:=by
 unfold coversM
 rw [Bool.and_eq_true,Bool.and_eq_true,sub_iff,sub_iff,withinL_iff,and_assoc]
theorem coversM_trans {a b c:Mv} (h:coversM a b=true) (k:coversM b c=true):coversM a c=true:=by
 rw [coversM_iff] at *
 exact ⟨fun j hj=>k.1 j (h.1 j hj),fun j hj=>k.2.1 j (h.2.1 j hj),fun j hj=>k.2.2 j (h.2.2 j hj)⟩
theorem coversM_refl (a:Mv):coversM a a=true:=coversM_iff.2 ⟨fun _ h=>h,fun _ h=>h,fun _ h=>h⟩
theorem coversM_sat {a b:Mv} (h:coversM a b=true) {R:Nat→Prop} {x:BitVec 64} (hb:hasM b x=true∧∀ k∈b.to,R k):hasM a x=true∧∀ k∈a.to,R k:=by
 rw [coversM_iff] at h
 obtain ⟨h1,h2,h3⟩:=h
 obtain ⟨hh,hk⟩:=hb
 rw [hasM_iff] at hh ⊢
 exact ⟨⟨fun j hj=>hh.1 j (h1 j hj),fun j hj=>hh.2 j (h2 j hj)⟩,fun k hk2=>hk k (h3 k hk2)⟩
theorem leastL_sub {l:List Mv} {m:Mv} (h:m∈leastL l):m∈l:=by
 obtain ⟨i,hi,_,hx⟩:=mem_kept.1 h
 exact List.mem_of_getElem? hx
theorem countP_lt {α : Type} {p q : α→Bool} {l:List α} {a : α} (h:∀ x∈l,p x=true→q x=true) (ha:a∈l) (hq:q a=true) (hp:p a=false):l.countP p < l.countP q:=by
 induction l with
 | nil=>cases ha
 | cons x l ih =>
   rw [List.countP_cons,List.countP_cons]
   have hle:l.countP p≤l.countP q:=List.countP_mono_left (fun x hx=>h x (List.mem_cons_of_mem _ hx))
   rcases List.mem_cons.1 ha with rfl | ha
   ·rw [hq,hp];simp;omega
   ·have:=ih (fun x hx=>h x (List.mem_cons_of_mem _ hx)) ha
    have hx:=h x (List.mem_cons_self ..)
    cases hpx:p x with
    | true=>rw [hx hpx];simp;omega
    | false=>cases hqx:q x <;> simp <;> omega
theorem leastL_sat {R:Nat→Prop} {x:BitVec 64} {l:List Mv}:satM R x (leastL l)↔satM R x l:=by
 constructor
 ·rintro ⟨s,hs,h⟩
  exact ⟨s,leastL_sub hs,h⟩
 ·rintro ⟨s,hs,h⟩
  obtain ⟨i,hi,hsi⟩:=List.getElem_of_mem hs
  have key:∀ (q:Nat) (i:Nat) (hi:i < l.length),(l.countP fun z=>coversM z l[i]) * l.length+i≤q→(hasM l[i] x=true∧∀ k∈l[i].to,R k)→satM R x (leastL l):=by
   intro q
   induction q using Nat.strongRecOn with
   | ind q ih =>
     intro i hi hq hR
     by_cases hp:((List.range l.length).all fun k=>(k==i) || (!coversM (l.getD k mv0) (l.getD i mv0) || (decide (i < k)&&coversM (l.getD i mv0) (l.getD k mv0))))=true
     ·exact ⟨l[i],mem_kept.2 ⟨i,hi,hp,List.getElem?_eq_getElem hi⟩,hR⟩
     ·rw [List.all_eq_true] at hp
      obtain ⟨k,hk⟩:=Classical.not_forall.1 hp
      obtain ⟨hk,hl⟩:=Classical.not_imp.1 hk
      rw [List.mem_range] at hk
      rw [Bool.not_eq_true,Bool.or_eq_false_iff,Bool.or_eq_false_iff,List.getD_eq_getElem?_getD,List.getD_eq_getElem?_getD,List.getElem?_eq_getElem hk,List.getElem?_eq_getElem hi] at hl
      obtain ⟨hne,hc,hlt⟩:=hl
      have hc:coversM l[k] l[i]=true:=by simpa using hc
      have hne:k≠i:=by simpa using hne
      have hlt:i < k→coversM l[i] l[k]=false:=by simpa using hlt
      refine ih ((l.countP fun z=>coversM z l[k]) * l.length+k) ?_ k hk (Nat.le_refl _) (coversM_sat hc hR)
      have hle:(l.countP fun z=>coversM z l[k])≤(l.countP fun z=>coversM z l[i]):=List.countP_mono_left (fun z _ hz=>coversM_trans hz hc)
      by_cases hki:k < i
      ·have:(l.countP fun z=>coversM z l[k]) * l.length≤(l.countP fun z=>coversM z l[i]) * l.length:=Nat.mul_le_mul_right _ hle
       omega
      ·have hlt2:(l.countP fun z=>coversM z l[k]) < (l.countP fun z=>coversM z l[i]) :=
        countP_lt (a:=l[i]) (fun z _ hz=>coversM_trans hz hc) (List.getElem_mem hi) (coversM_refl _) (hlt (by omega))
       have:((l.countP fun z=>coversM z l[k])+1) * l.length≤(l.countP fun z=>coversM z l[i]) * l.length:=Nat.mul_le_mul_right _ hlt2
       rw [Nat.succ_mul] at this
       omega
  exact key _ i hi (Nat.le_refl _) (by rw [hsi];exact h)
theorem pairM_has {a b m:Mv} (h:pairM a b=some m) {x:BitVec 64}:hasM m x=true↔hasM a x=true∧hasM b x=true:=by
 unfold pairM at h
 split at h
 ·cases h
  rw [hasM_iff,hasM_iff,hasM_iff]
  simp only [BitVec.getLsbD_or,Bool.or_eq_true]
  exact ⟨fun h=>⟨⟨fun j hj=>h.1 j (.inl hj),fun j hj=>h.2 j (.inl hj)⟩,⟨fun j hj=>h.1 j (.inr hj),fun j hj=>h.2 j (.inr hj)⟩⟩,
   fun h=>⟨fun j hj=>hj.elim (h.1.1 j) (h.2.1 j),fun j hj=>hj.elim (h.1.2 j) (h.2.2 j)⟩⟩
 ·cases h
theorem pairM_to {a b m:Mv} (h:pairM a b=some m):m.to=joinL a.to b.to:=by
 unfold pairM at h
 split at h
 ·cases h;rfl
 ·cases h
theorem pairM_none {a b:Mv} (h:pairM a b=none) {x:BitVec 64} (ha:hasM a x=true) (hb:hasM b x=true):False:=by
 unfold pairM at h
 split at h
 ·cases h
 ·rename_i hn
  apply hn
  rw [hasM_iff] at ha hb
  rw [beq_iff_eq]
  refine BitVec.eq_of_getLsbD_eq (fun j hj=>?_)
  rw [BitVec.getLsbD_and,BitVec.getLsbD_or,BitVec.getLsbD_or]
  cases h1:(a.yes.getLsbD j || b.yes.getLsbD j) with
  | false=>simp
  | true =>
    have hx:x.getLsbD j=true:=by
     rw [Bool.or_eq_true] at h1
     exact h1.elim (ha.1 j) (hb.1 j)
    cases h2:(a.no.getLsbD j || b.no.getLsbD j) with
    | false=>simp
    | true =>
      rw [Bool.or_eq_true] at h2
      have:=h2.elim (ha.2 j) (hb.2 j)
      rw [hx] at this;cases this
theorem range_mem {α β γ : Type} {a:List α} {b:List β} {da : α} {db : β} {q : α→β→γ→Prop} {z : γ}:(∃ p∈List.range (a.length * b.length),q (a.getD (p / b.length) da) (b.getD (p % b.length) db) z)↔∃ x∈a,∃ y∈b,q x y z:=by
 constructor
 ·rintro ⟨p,hp,h⟩
  rw [List.mem_range] at hp
  have hb0:0 < b.length:=by
   rcases Nat.eq_zero_or_pos b.length with e | e
   ·rw [e,Nat.mul_zero] at hp;omega
   ·exact e
  have h1:p / b.length < a.length:=by rw [Nat.div_lt_iff_lt_mul hb0];omega
  have h2:p % b.length < b.length:=Nat.mod_lt _ hb0
  rw [List.getD_eq_getElem?_getD,List.getD_eq_getElem?_getD,List.getElem?_eq_getElem h1,List.getElem?_eq_getElem h2] at h
  exact ⟨_,List.getElem_mem h1,_,List.getElem_mem h2,h⟩
 ·rintro ⟨x,hx,y,hy,h⟩
  obtain ⟨i,hi,rfl⟩:=List.getElem_of_mem hx
  obtain ⟨j,hj,rfl⟩:=List.getElem_of_mem hy
  refine ⟨i * b.length+j,List.mem_range.2 ?_,?_⟩
  ·have:(i+1) * b.length≤a.length * b.length:=Nat.mul_le_mul_right _ hi
   rw [Nat.succ_mul] at this
   omega
  ·rw [show (i * b.length+j) / b.length=i by rw [Nat.mul_comm,Nat.mul_add_div (by omega),Nat.div_eq_of_lt hj,Nat.add_zero],show (i * b.length+j) % b.length=j by rw [Nat.mul_comm,Nat.mul_add_mod,Nat.mod_eq_of_lt hj],List.getD_eq_getElem?_getD,List.getD_eq_getElem?_getD,List.getElem?_eq_getElem hi,List.getElem?_eq_getElem hj]
   exact h
theorem mem_prodL {a b:List Mv} {m:Mv}:m∈prodL a b↔∃ x∈a,∃ y∈b,pairM x y=some m:=by
 unfold prodL
 rw [List.mem_filterMap]
 exact range_mem (q:=fun x y z=>pairM x y=some z)
theorem mem_joinsL {a b:List (List Nat)} {z:List Nat}:z∈joinsL a b↔∃ x∈a,∃ y∈b,joinL x y=z:=by
 unfold joinsL
 rw [List.mem_map]
 exact range_mem (q:=fun x y z=>joinL x y=z)
theorem prodL_sat {R:Nat→Prop} {x:BitVec 64} {a b:List Mv}:satM R x (prodL a b)↔satM R x a∧satM R x b:=by
 constructor
 ·rintro ⟨m,hm,hh,hk⟩
  obtain ⟨p,hp,q,hq,h⟩:=mem_prodL.1 hm
  rw [pairM_has h] at hh
  rw [pairM_to h] at hk
  exact ⟨⟨p,hp,hh.1,fun k h=>hk k (mem_joinL.2 (.inl h))⟩,⟨q,hq,hh.2,fun k h=>hk k (mem_joinL.2 (.inr h))⟩⟩
 ·rintro ⟨⟨p,hp,hh,hk⟩,⟨q,hq,hh2,hk2⟩⟩
  cases h:pairM p q with
  | none=>exact (pairM_none h hh hh2).elim
  | some m =>
    refine ⟨m,mem_prodL.2 ⟨p,hp,q,hq,h⟩,(pairM_has h).2 ⟨hh,hh2⟩,fun k hkm=>?_⟩
    rw [pairM_to h] at hkm
    exact (mem_joinL.1 hkm).elim (hk k) (hk2 k)
theorem FX_or {b:Bool} {A B:Nat→Prop} (i:Nat):FX b A B i↔FX b A (fun i=>A i∨B i) i:=by
 have least:∀ d,A (i+d)→∃ e,e≤d∧A (i+e)∧∀ j,j < e→¬ A (i+j):=by
  intro d
  induction d using Nat.strongRecOn with
  | ind d ih =>
    intro h
    by_cases hx:∃ j,j < d∧A (i+j)
    ·obtain ⟨j,hj,ha⟩:=hx
     obtain ⟨e,h1,h2⟩:=ih j hj ha
     exact ⟨e,by omega,h2⟩
    ·exact ⟨d,Nat.le_refl _,h,fun j hj ha=>hx ⟨j,hj,ha⟩⟩
 constructor
 ·rintro (⟨d,h,k⟩ | ⟨h,k⟩)
  ·exact .inl ⟨d,h,fun j hj=> .inr (k j hj)⟩
  ·exact .inr ⟨h,fun j=> .inr (k j)⟩
 ·rintro (⟨d,h,k⟩ | ⟨h,k⟩)
  ·obtain ⟨e,he,ha,hn⟩:=least d h
   exact .inl ⟨e,ha,fun j hj=>(k j (by omega)).resolve_left (hn j hj)⟩
  ·by_cases hx:∃ d,A (i+d)
   ·obtain ⟨d,hd⟩:=hx
    obtain ⟨e,he,ha,hn⟩:=least d hd
    exact .inl ⟨e,ha,fun j hj=>(k j).resolve_left (hn j hj)⟩
   ·exact .inr ⟨h,fun j=>(k j).resolve_left (fun ha=>hx ⟨j,ha⟩)⟩
theorem FX_un {σ : Nat→List UInt8→Prop} (a b:F) (i:Nat):FX false (semF σ b) (semF σ a) i↔semF σ (.un a b) i:=by
 unfold FX
 rw [semF]
 simp
theorem FX_re {σ : Nat→List UInt8→Prop} (a b:F) (i:Nat):FX true (fun i=>semF σ b i∧semF σ a i) (semF σ b) i↔semF σ (.re a b) i:=by
 rw [semF]
 constructor
 ·rintro (⟨d,⟨h1,h2⟩,k⟩ | ⟨_,k⟩) e
  ·by_cases he:e < d
   ·exact .inl (k e he)
   ·by_cases h:e=d
    ·subst h;exact .inl h1
    ·exact .inr ⟨d,by omega,h2⟩
  ·exact .inl (k e)
 ·intro h
  by_cases hx:∃ d,semF σ a (i+d)
  ·obtain ⟨d,hd⟩:=hx
   have:∀ d,semF σ a (i+d)→∃ e,semF σ a (i+e)∧∀ j,j < e→¬ semF σ a (i+j):=by
    intro d
    induction d using Nat.strongRecOn with
    | ind d ih =>
      intro h
      by_cases hx:∃ j,j < d∧semF σ a (i+j)
      ·obtain ⟨j,hj,ha⟩:=hx
       exact ih j hj ha
      ·exact ⟨d,h,fun j hj ha=>hx ⟨j,hj,ha⟩⟩
   obtain ⟨e,ha,hn⟩:=this d hd
   refine .inl ⟨e,⟨(h e).resolve_right (fun ⟨j,hj,hx⟩=>hn j hj hx),ha⟩,fun j hj=>(h j).resolve_right (fun ⟨q,hq,hx⟩=>hn q (by omega) hx)⟩
  ·exact .inr ⟨rfl,fun j=>(h j).resolve_right (fun ⟨q,_,hq⟩=>hx ⟨q,hq⟩)⟩
section
variable {S : Nat → Sta} {σ : Nat → BitVec 64}
theorem take_false (r:Nat→Nat→Prop) (n i:Nat):TakeM S σ r n i false↔satM (fun k=>k≠n∧r k (i+1)) (σ i) (S n).moves:=by
 unfold TakeM satM
 refine exists_congr fun m=>and_congr_right fun _=>and_congr_right fun _=>?_
 simp only [Bool.false_eq_true,iff_false]
 exact ⟨fun ⟨h,k⟩ x hx=>⟨fun e=>h (e ▸ hx),k x hx (fun e=>h (e ▸ hx))⟩,fun h=>⟨fun hn=>(h n hn).1 rfl,fun x hx _=>(h x hx).2⟩⟩
theorem take_or (r:Nat→Nat→Prop) (n i:Nat):(TakeM S σ r n i false∨TakeM S σ r n i true)↔satM (fun k=>k=n∨r k (i+1)) (σ i) (S n).moves:=by
 unfold TakeM satM
 constructor
 ·rintro (⟨m,h1,h2,_,h3⟩ | ⟨m,h1,h2,_,h3⟩)
  all_goals exact ⟨m,h1,h2,fun k hk=>(Classical.em (k=n)).imp (fun e=>e) (fun e=>h3 k hk e)⟩
 ·rintro ⟨m,h1,h2,h3⟩
  by_cases hn:n∈m.to
  ·exact .inr ⟨m,h1,h2,⟨fun _=>rfl,fun _=>hn⟩,fun k hk hne=>(h3 k hk).resolve_left hne⟩
  ·exact .inl ⟨m,h1,h2,⟨fun h=>absurd h hn,fun h=>by cases h⟩,fun k hk hne=>(h3 k hk).resolve_left hne⟩
theorem acc_two (n i:Nat):acc S σ n i↔FX (!(S n).fin) (fun i=>satM (fun k=>k≠n∧k < n∧acc S σ k (i+1)) (σ i) (S n).moves) (fun i=>satM (fun k=>k=n∨(k < n∧acc S σ k (i+1))) (σ i) (S n).moves) i:=by
 rw [acc_eq,FX_or]
 refine FX.congr (fun i=>take_false _ n i) (fun i=>?_) i
 exact take_or _ n i
end
theorem satM_congr {R Q:Nat→Prop} {x:BitVec 64} {l:List Mv} (h:∀ m∈l,∀ k∈m.to,R k↔Q k):satM R x l↔satM Q x l:=by
 unfold satM
 exact exists_congr fun m=>and_congr_right fun hm=>and_congr_right fun _=>forall_congr' fun k=>forall_congr' fun hk=>h m hm k hk
theorem mvS_eq {S:Nat→Sta} {σ : Nat→BitVec 64} {M:List Mv} {i:Nat}:mvS S σ M i↔satM (fun k=>acc S σ k (i+1)) (σ i) M:=Iff.rfl
def Ext (s s':Mk):Prop:=∃ l,s'.sts=s.sts++l
theorem Ext.refl (s:Mk):Ext s s:=⟨[],(List.append_nil _).symm⟩
theorem Ext.trans {a b c:Mk} (h:Ext a b) (k:Ext b c):Ext a c:=by
 obtain ⟨l,h⟩:=h
 obtain ⟨m,k⟩:=k
 exact ⟨l++m,by rw [k,h,List.append_assoc]⟩
theorem Ext.len {a b:Mk} (h:Ext a b):a.sts.length≤b.sts.length:=by
 obtain ⟨l,h⟩:=h
 rw [h,List.length_append];omega
theorem Ext.sta {a b:Mk} (h:Ext a b) {k:Nat} (hk:k < a.sts.length):staN b.sts k=staN a.sts k:=by
 obtain ⟨l,h⟩:=h
 unfold staN
 rw [h,List.getD_eq_getElem?_getD,List.getElem?_append_left hk,← List.getD_eq_getElem?_getD]
theorem Ext.acc {a b:Mk} (h:Ext a b) {σ : Nat→BitVec 64} {k:Nat} (hk:k < a.sts.length) (i:Nat):PL.acc (staN b.sts) σ k i↔PL.acc (staN a.sts) σ k i :=
 acc_ext k (fun q hq=>h.sta (by omega)) i
def toLt (M:List Mv) (n:Nat):Prop:=∀ m∈M,∀ k∈m.to,k < n
theorem toLt.mono {M:List Mv} {n n':Nat} (h:toLt M n) (hn:n≤n'):toLt M n':=fun m hm k hk=>Nat.lt_of_lt_of_le (h m hm k hk) hn
def inLt (L:List (List Nat)) (n:Nat):Prop:=∀ s∈L,∀ k∈s,k < n
theorem inLt.mono {L:List (List Nat)} {n n':Nat} (h:inLt L n) (hn:n≤n'):inLt L n':=fun m hm k hk=>Nat.lt_of_lt_of_le (h m hm k hk) hn
section
variable (σ : Nat → BitVec 64) (τ : Nat → List UInt8 → Prop)
structure Inv (s:Mk):Prop where
 «to» : ∀ n,n < s.sts.length→∀ m∈(staN s.sts n).moves,∀ k∈m.to,k≤n
 num:∀ t n,(t,n)∈s.num→n < s.sts.length∧∀ i,acc (staN s.sts) σ n i↔semF τ t i
def WaysOk (t:F) (w:Ways):Prop:=∀ s M s',Inv σ τ s→w s=some (M,s')→Inv σ τ s'∧Ext s s'∧toLt M s'.sts.length∧∀ i,mvS (staN s'.sts) σ M i↔semF τ t i
def SetsOk (t:F) (w:Sets):Prop:=∀ s L s',Inv σ τ s→w s=some (L,s')→Inv σ τ s'∧Ext s s'∧inLt L s'.sts.length∧(∀ x∈L,x.Nodup)∧∀ i,setS (staN s'.sts) σ L i↔semF τ t i
def NumOk (t:F) (w:Num):Prop:=∀ s n s',Inv σ τ s→w s=some (n,s')→Inv σ τ s'∧Ext s s'∧n < s'.sts.length∧∀ i,acc (staN s'.sts) σ n i↔semF τ t i
end
section
variable {σ : Nat → BitVec 64} {τ : Nat → List UInt8 → Prop}
theorem oneSet_ok {t:F} {w:Num} (h:NumOk σ τ t w):SetsOk σ τ t (oneSet w):=by
 intro s L s' hi hw
 unfold oneSet at hw
 rw [Option.map_eq_some_iff] at hw
 obtain ⟨⟨n,s1⟩,h1,h2⟩:=hw
 cases h2
 obtain ⟨k1,k2,k3,k4⟩:=h s n s' hi h1
 refine ⟨k1,k2,?_,?_,fun i=>?_⟩
 ·intro x hx k hk
  rw [List.mem_singleton.1 hx] at hk
  rw [List.mem_singleton.1 hk];exact k3
 ·intro x hx
  rw [List.mem_singleton.1 hx]
  exact List.nodup_cons.2 ⟨by simp,List.nodup_nil⟩
 ·rw [← k4]
  unfold setS
  simp
theorem cloneOf_ok {t:F} {w:Num} (h:NumOk σ τ t w):WaysOk σ τ t (cloneOf w):=by
 intro s L s' hi hw
 unfold cloneOf at hw
 rw [Option.map_eq_some_iff] at hw
 obtain ⟨⟨n,s1⟩,h1,h2⟩:=hw
 cases h2
 obtain ⟨k1,k2,k3,k4⟩:=h s n s' hi h1
 refine ⟨k1,k2,fun m hm k hk=>?_,fun i=>?_⟩
 ·have:=k1.to n k3 m hm k hk;omega
 ·rw [← k4,acc_step (k1.to n k3)]
  rfl
theorem lookup_mem {t:F} {n:Nat}:∀ {l:List (F × Nat)},l.lookup t=some n→(t,n)∈l:=by
 intro l
 induction l with
 | nil=>intro h;cases h
 | cons x l ih =>
   intro h
   obtain ⟨u,m⟩:=x
   rw [List.lookup_cons] at h
   split at h
   ·rename_i e
    cases h
    rw [beq_iff_eq] at e
    subst e
    exact List.mem_cons_self ..
   ·exact List.mem_cons_of_mem _ (ih h)
theorem stateOf_ok {t:F} {fin:Bool} {raw:Ways}
 (h:∀ s M s',Inv σ τ s→raw s=some (M,s')→Inv σ τ s'∧Ext s s'∧(∀ m∈M,∀ k∈m.to,k≤s'.sts.length) ∧
  ∀ S:Nat→Sta,S s'.sts.length=⟨M,fin⟩→(∀ k,k < s'.sts.length→S k=staN s'.sts k)→∀ i,acc S σ s'.sts.length i↔semF τ t i):NumOk σ τ t (stateOf t fin raw):=by
 intro s n s' hi hw
 unfold stateOf at hw
 split at hw
 ·rename_i m hm
  cases hw
  have:=hi.num t n (lookup_mem hm)
  exact ⟨hi,Ext.refl _,this.1,this.2⟩
 ·rw [Option.bind_eq_some_iff] at hw
  obtain ⟨⟨M,s1⟩,h1,h2⟩:=hw
  obtain ⟨k1,k2,k3,k4⟩:=h s M s1 hi h1
  dsimp only at h2
  split at h2
  ·cases h2
  ·cases h2
   have hE:Ext s1 ⟨s1.sts++[⟨M,fin⟩],(t,s1.sts.length)::s1.num⟩:=⟨[⟨M,fin⟩],rfl⟩
   have hlen:(s1.sts++[(⟨M,fin⟩:Sta)]).length=s1.sts.length+1:=by rw [List.length_append];rfl
   have hnew:staN (s1.sts++[⟨M,fin⟩]) s1.sts.length=⟨M,fin⟩:=by
    unfold staN
    rw [List.getD_eq_getElem?_getD,List.getElem?_append_right (Nat.le_refl _),Nat.sub_self];rfl
   have hk:=k4 (staN (s1.sts++[⟨M,fin⟩])) hnew (fun k hk=>hE.sta hk)
   refine ⟨⟨fun n hn m hm k hkm=>?_,fun u n hn=>?_⟩,k2.trans hE,by show s1.sts.length < (s1.sts++[_]).length;omega,hk⟩
   ·have hn:n < (s1.sts++[(⟨M,fin⟩:Sta)]).length:=hn
    by_cases e:n=s1.sts.length
    ·subst e
     have hm:m∈(staN (s1.sts++[⟨M,fin⟩]) s1.sts.length).moves:=hm
     rw [hnew] at hm
     exact k3 m hm k hkm
    ·have hm:m∈(staN (s1.sts++[⟨M,fin⟩]) n).moves:=hm
     rw [hE.sta (show n < s1.sts.length by omega)] at hm
     exact k1.to n (by omega) m hm k hkm
   ·rcases List.mem_cons.1 hn with e | hn
    ·cases e
     exact ⟨by show s1.sts.length < (s1.sts++[_]).length;omega,hk⟩
    ·obtain ⟨q1,q2⟩:=k1.num u n hn
     exact ⟨by show n < (s1.sts++[_]).length;omega,fun i=>(hE.acc q1 i).trans (q2 i)⟩
theorem satM_below {S S':Nat→Sta} {N n:Nat} {M:List Mv} (hN:toLt M N) (hS:∀ k,k < N→S k=S' k) (x:BitVec 64) (i:Nat) (hn:N≤n) :
 satM (fun k=>k≠n∧k < n∧acc S σ k i) x M↔satM (fun k=>acc S' σ k i) x M :=
 satM_congr fun m hm k hk=>by
  have:=hN m hm k hk
  rw [acc_ext k (fun q hq=>hS q (by omega)) i]
  exact ⟨fun h=>h.2.2,fun h=>⟨by omega,by omega,h⟩⟩
theorem satM_below2 {S S':Nat→Sta} {N n:Nat} {M:List Mv} (hN:toLt M N) (hS:∀ k,k < N→S k=S' k) (x:BitVec 64) (i:Nat) (hn:N≤n) :
 satM (fun k=>k=n∨(k < n∧acc S σ k i)) x M↔satM (fun k=>acc S' σ k i) x M :=
 satM_congr fun m hm k hk=>by
  have:=hN m hm k hk
  rw [acc_ext k (fun q hq=>hS q (by omega)) i]
  exact ⟨fun h=>h.elim (fun e=>by omega) (fun e=>e.2),fun h=> .inr ⟨by omega,h⟩⟩
theorem plain_ok {t:F} {w:Ways} (h:WaysOk σ τ t w):NumOk σ τ t (stateOf t false w):=by
 refine stateOf_ok fun s M s' hi hw=>?_
 obtain ⟨k1,k2,k3,k4⟩:=h s M s' hi hw
 refine ⟨k1,k2,fun m hm k hk=>Nat.le_of_lt (k3 m hm k hk),fun S hS hS2 i=>?_⟩
 rw [acc_step (fun m hm k hk=>by rw [hS] at hm;exact Nat.le_of_lt (k3 m hm k hk)),hS,← k4]
 exact satM_congr fun m hm k hk=>acc_ext k (fun q hq=>hS2 q (by have:=k3 m hm k hk;omega)) _
theorem seq_some {α : Type} {a b:Mk→Option (α × Mk)} {f : α→α→Mk→Option (α × Mk)} {s:Mk} {r : α × Mk} (h:seqW a b f s=some r):∃ x s1 y s2,a s=some (x,s1)∧b s1=some (y,s2)∧f x y s2=some r:=by
 unfold seqW at h
 rw [Option.bind_eq_some_iff] at h
 obtain ⟨⟨x,s1⟩,h1,h2⟩:=h
 rw [Option.bind_eq_some_iff] at h2
 obtain ⟨⟨y,s2⟩,h3,h4⟩:=h2
 exact ⟨x,s1,y,s2,h1,h3,h4⟩
theorem leastM_some {l M:List Mv} (h:leastM l=some M):M=leastL l:=by
 unfold leastM at h
 split at h
 ·cases h
 ·cases h;rfl
theorem bothM_some {a b M:List Mv} (h:bothM a b=some M):M=leastL (prodL a b):=by
 unfold bothM at h
 split at h
 ·cases h
 ·cases h;rfl
theorem fewestM_some {l M:List (List Nat)} (h:fewestM l=some M):M=fewestL l:=by
 unfold fewestM at h
 split at h
 ·cases h
 ·cases h;rfl
theorem toLt.least {l:List Mv} {n:Nat} (h:toLt l n):toLt (leastL l) n:=fun m hm k hk=>h m (leastL_sub hm) k hk
theorem toLt.append {a b:List Mv} {n:Nat} (h:toLt a n) (k:toLt b n):toLt (a++b) n:=fun m hm q hq=>(List.mem_append.1 hm).elim (fun hm=>h m hm q hq) (fun hm=>k m hm q hq)
theorem toLt.prod {a b:List Mv} {n:Nat} (h:toLt a n) (k:toLt b n):toLt (prodL a b) n:=fun m hm q hq=>by
 obtain ⟨x,hx,y,hy,e⟩:=mem_prodL.1 hm
 rw [pairM_to e] at hq
 exact (mem_joinL.1 hq).elim (h x hx q) (k y hy q)
theorem two_ways {a b:F} {wa wb:Ways} (ha:WaysOk σ τ a wa) (hb:WaysOk σ τ b wb) {s s1 s2:Mk} {x y:List Mv} (hi:Inv σ τ s) (h1:wa s=some (x,s1)) (h2:wb s1=some (y,s2)) :
 Inv σ τ s2∧Ext s s2∧toLt x s2.sts.length∧toLt y s2.sts.length∧(∀ i,mvS (staN s2.sts) σ x i↔semF τ a i)∧∀ i,mvS (staN s2.sts) σ y i↔semF τ b i:=by
 obtain ⟨k1,k2,k3,k4⟩:=ha _ _ _ hi h1
 obtain ⟨q1,q2,q3,q4⟩:=hb _ _ _ k1 h2
 refine ⟨q1,k2.trans q2,k3.mono q2.len,q3,fun i=>?_,q4⟩
 rw [← k4]
 exact satM_congr fun m hm k hk=>q2.acc (k3 m hm k hk) _
theorem two_sets {a b:F} {wa wb:Sets} (ha:SetsOk σ τ a wa) (hb:SetsOk σ τ b wb) {s s1 s2:Mk} {x y:List (List Nat)} (hi:Inv σ τ s) (h1:wa s=some (x,s1)) (h2:wb s1=some (y,s2)) :
 Inv σ τ s2∧Ext s s2∧inLt x s2.sts.length∧inLt y s2.sts.length∧(∀ z∈x,z.Nodup)∧(∀ z∈y,z.Nodup)∧(∀ i,setS (staN s2.sts) σ x i↔semF τ a i)∧∀ i,setS (staN s2.sts) σ y i↔semF τ b i:=by
 obtain ⟨k1,k2,k3,k5,k4⟩:=ha _ _ _ hi h1
 obtain ⟨q1,q2,q3,q5,q4⟩:=hb _ _ _ k1 h2
 refine ⟨q1,k2.trans q2,k3.mono q2.len,q3,k5,q5,fun i=>?_,q4⟩
 rw [← k4]
 unfold setS
 exact exists_congr fun z=>and_congr_right fun hz=>forall_congr' fun k=>forall_congr' fun hk=>q2.acc (k3 z hz k hk) _
theorem satM_own {R:Nat→Prop} {x:BitVec 64} {n:Nat}:satM R x [ownM n]↔R n:=by
 unfold satM
 constructor
 ·rintro ⟨m,hm,_,h⟩
  rw [List.mem_singleton.1 hm] at h
  exact h n (List.mem_singleton.2 rfl)
 ·intro h
  refine ⟨ownM n,List.mem_singleton.2 rfl,?_,fun k hk=>?_⟩
  ·rw [hasM_iff]
   exact ⟨fun j hj=>by simp [ownM] at hj,fun j hj=>by simp [ownM] at hj⟩
  ·rw [List.mem_singleton.1 hk];exact h
theorem until_ok {a b:F} {wa wb:Ways} (ha:WaysOk σ τ a wa) (hb:WaysOk σ τ b wb):NumOk σ τ (.un a b) (stateOf (.un a b) true (untilW wa wb)):=by
 refine stateOf_ok fun s M s' hi hw=>?_
 obtain ⟨x,s1,y,s2,h1,h2,h3⟩:=seq_some hw
 obtain ⟨k1,k2,kx,ky,sx,sy⟩:=two_ways ha hb hi h1 h2
 rw [Option.bind_eq_some_iff] at h3
 obtain ⟨p,hp,h3⟩:=h3
 rw [Option.map_eq_some_iff] at h3
 obtain ⟨q,hq,h3⟩:=h3
 cases h3
 cases bothM_some hp
 cases leastM_some hq
 have hown:toLt [ownM s'.sts.length] (s'.sts.length+1):=fun m hm k hk=>by
  rw [List.mem_singleton.1 hm] at hk
  rw [List.mem_singleton.1 hk];omega
 have hto:toLt (leastL (y++leastL (prodL x [ownM s'.sts.length]))) (s'.sts.length+1):=((ky.mono (Nat.le_succ _)).append ((kx.mono (Nat.le_succ _)).prod hown).least).least
 refine ⟨k1,k2,fun m hm k hk=>by have:=hto m hm k hk;omega,fun S hS hS2 i=>?_⟩
 rw [acc_two,hS,← FX_un,FX_or (A:=semF τ b)]
 refine FX.congr (fun i=>?_) (fun i=>?_) i
 ·rw [leastL_sat,satM_append,leastL_sat,prodL_sat,satM_own,satM_below ky hS2 _ _ (Nat.le_refl _),← mvS_eq,sy]
  exact ⟨fun h=>h.elim (fun h=>h) (fun h=>absurd rfl h.2.1),fun h=> .inl h⟩
 ·rw [leastL_sat,satM_append,leastL_sat,prodL_sat,satM_own,satM_below2 ky hS2 _ _ (Nat.le_refl _),satM_below2 kx hS2 _ _ (Nat.le_refl _),← mvS_eq,← mvS_eq,sx,sy]
  exact ⟨fun h=>h.imp (fun h=>h) (fun h=>h.1),fun h=>h.imp (fun h=>h) (fun h=>⟨h,.inl rfl⟩)⟩
theorem release_ok {a b:F} {wa wb:Ways} (ha:WaysOk σ τ a wa) (hb:WaysOk σ τ b wb):NumOk σ τ (.re a b) (stateOf (.re a b) false (releaseW wa wb)):=by
 refine stateOf_ok fun s M s' hi hw=>?_
 obtain ⟨x,s1,y,s2,h1,h2,h3⟩:=seq_some hw
 obtain ⟨k1,k2,kx,ky,sx,sy⟩:=two_ways ha hb hi h1 h2
 rw [Option.map_eq_some_iff] at h3
 obtain ⟨q,hq,h3⟩:=h3
 cases h3
 cases bothM_some hq
 have hown:toLt [ownM s'.sts.length] (s'.sts.length+1):=fun m hm k hk=>by
  rw [List.mem_singleton.1 hm] at hk
  rw [List.mem_singleton.1 hk];omega
 have hto:toLt (leastL (prodL y (x++[ownM s'.sts.length]))) (s'.sts.length+1):=((ky.mono (Nat.le_succ _)).prod ((kx.mono (Nat.le_succ _)).append hown)).least
 refine ⟨k1,k2,fun m hm k hk=>by have:=hto m hm k hk;omega,fun S hS hS2 i=>?_⟩
 rw [acc_two,hS,← FX_re]
 refine FX.congr (fun i=>?_) (fun i=>?_) i
 ·rw [leastL_sat,prodL_sat,satM_append,satM_own,satM_below ky hS2 _ _ (Nat.le_refl _),satM_below kx hS2 _ _ (Nat.le_refl _),← mvS_eq,← mvS_eq,sx,sy]
  exact and_congr_right fun _=>⟨fun h=>h.elim (fun h=>h) (fun h=>absurd rfl h.1),fun h=> .inl h⟩
 ·rw [leastL_sat,prodL_sat,satM_append,satM_own,satM_below2 ky hS2 _ _ (Nat.le_refl _),← mvS_eq,sy]
  exact ⟨fun h=>h.1,fun h=>⟨h,.inr (.inl rfl)⟩⟩
end
def bitsOf (names:List (List UInt8)) (σ : Nat→BitVec 64) (i:Nat) (n:List UInt8):Prop:=(σ i).getLsbD (names.idxOf n)=true
section
variable {σ : Nat → BitVec 64} {names : List (List UInt8)}
theorem bitM_at {n:List UInt8} (h:names.idxOf n < 64) (j:Nat):(bitM names n).getLsbD j=true↔j=names.idxOf n:=by
 unfold bitM
 rw [BitVec.getLsbD_shiftLeft]
 simp
 omega
theorem mkF_ok (hl:names.length≤64):∀ t:F,(∀ n∈namesF t,n∈names)→SetsOk σ (bitsOf names σ) t (mkF names t).sets∧WaysOk σ (bitsOf names σ) t (mkF names t).ways:=by
 have hidx:∀ n,n∈names→names.idxOf n < 64:=fun n hn=>by have:=List.idxOf_lt_length_iff.2 hn;omega
 intro t
 induction t with
 | tt =>
   intro _
   refine ⟨fun s L s' hi hw=>?_,fun s L s' hi hw=>?_⟩
   ·cases hw
    exact ⟨hi,.refl _,(fun (x:List Nat) (hx:x∈[[]]) k hk=>by rw [List.mem_singleton.1 hx] at hk;cases hk),(fun x hx=>by rw [List.mem_singleton.1 hx];exact List.nodup_nil),fun i=>by unfold setS;simp [semF]⟩
   ·cases hw
    refine ⟨hi,.refl _,(fun (x:Mv) (hx:x∈[_]) k hk=>by rw [List.mem_singleton.1 hx] at hk;cases hk),fun i=>?_⟩
    unfold mvS
    simp [semF,mv0,hasM]
 | ff =>
   intro _
   refine ⟨fun s L s' hi hw=>?_,fun s L s' hi hw=>?_⟩
   ·cases hw
    exact ⟨hi,.refl _,(fun (x:List Nat) (hx:x∈[])=>nomatch hx),(fun x hx=>nomatch hx),fun i=>by unfold setS;simp [semF]⟩
   ·cases hw
    exact ⟨hi,.refl _,(fun (x:Mv) (hx:x∈[])=>nomatch hx),fun i=>by unfold mvS;simp [semF]⟩
 | pr n =>
   intro hn
   have hb:=bitM_at (hidx n (hn n (by simp [namesF])))
   have hW:WaysOk σ (bitsOf names σ) (.pr n) (mkF names (.pr n)).ways:=fun s L s' hi hw=>by
    cases hw
    refine ⟨hi,.refl _,(fun (x:Mv) (hx:x∈[_]) k hk=>by rw [List.mem_singleton.1 hx] at hk;cases hk),fun i=>?_⟩
    rw [semF]
    unfold mvS bitsOf
    simp only [List.mem_singleton,exists_eq_left,hasM_iff,hb]
    simp
   exact ⟨oneSet_ok (plain_ok hW),hW⟩
 | np n =>
   intro hn
   have hb:=bitM_at (hidx n (hn n (by simp [namesF])))
   have hW:WaysOk σ (bitsOf names σ) (.np n) (mkF names (.np n)).ways:=fun s L s' hi hw=>by
    cases hw
    refine ⟨hi,.refl _,(fun (x:Mv) (hx:x∈[_]) k hk=>by rw [List.mem_singleton.1 hx] at hk;cases hk),fun i=>?_⟩
    rw [semF]
    unfold mvS bitsOf
    simp only [List.mem_singleton,exists_eq_left,hasM_iff,hb]
    simp
   exact ⟨oneSet_ok (plain_ok hW),hW⟩
 | nx a ih =>
   intro hn
   have ha:=ih hn
   have hW:WaysOk σ (bitsOf names σ) (.nx a) (mkF names (.nx a)).ways:=fun s L s' hi hw=>by
    have hw:(((mkF names a).sets s).map fun (l,s')=>(l.map fun x=>(⟨0,0,x⟩:Mv),s'))=some (L,s'):=hw
    rw [Option.map_eq_some_iff] at hw
    obtain ⟨⟨l,s1⟩,h1,h2⟩:=hw
    cases h2
    obtain ⟨k1,k2,k3,k5,k4⟩:=ha.1 _ _ _ hi h1
    refine ⟨k1,k2,fun x hx k hk=>?_,fun i=>?_⟩
    ·obtain ⟨z,hz,rfl⟩:=List.mem_map.1 hx
     exact k3 z hz k hk
    ·rw [semF,← k4]
     unfold mvS setS
     constructor
     ·rintro ⟨m,hm,_,h⟩
      obtain ⟨z,hz,rfl⟩:=List.mem_map.1 hm
      exact ⟨z,hz,h⟩
     ·rintro ⟨z,hz,h⟩
      exact ⟨_,List.mem_map.2 ⟨z,hz,rfl⟩,by simp [hasM],h⟩
   exact ⟨oneSet_ok (plain_ok hW),hW⟩
 | an a b iha ihb =>
   intro hn
   have ha:=iha (fun n h=>hn n (by simp [namesF,h]))
   have hb:=ihb (fun n h=>hn n (by simp [namesF,h]))
   refine ⟨fun s L s' hi hw=>?_,fun s L s' hi hw=>?_⟩
   ·simp only [mkF] at hw
    obtain ⟨x,s1,y,s2,h1,h2,h3⟩:=seq_some hw
    obtain ⟨k1,k2,kx,ky,nx,ny,sx,sy⟩:=two_sets ha.1 hb.1 hi h1 h2
    rw [Option.map_eq_some_iff] at h3
    obtain ⟨q,hq,h3⟩:=h3
    cases h3
    cases fewestM_some hq
    have hmem:∀ z,z∈joinsL x y↔∃ p∈x,∃ q∈y,joinL p q=z:=fun z=>mem_joinsL
    have hnd:∀ z∈(joinsL x y),z.Nodup:=fun z hz=>by
     obtain ⟨p,_,q,_,rfl⟩:=(hmem z).1 hz
     exact (sorted_joinL p q).imp (fun h=>by omega)
    refine ⟨k1,k2,fun z hz k hk=>?_,fun z hz=>hnd z (fewestL_sub hz),fun i=>?_⟩
    ·obtain ⟨p,hp,q,hq,rfl⟩:=(hmem z).1 (fewestL_sub hz)
     exact (mem_joinL.1 hk).elim (kx p hp k) (ky q hq k)
    ·rw [semF,← sx,← sy]
     refine (fewestL_sat (R:=fun k=>acc (staN s'.sts) σ k i) hnd).trans ?_
     unfold satS setS
     constructor
     ·rintro ⟨z,hz,h⟩
      obtain ⟨p,hp,q,hq,rfl⟩:=(hmem z).1 hz
      exact ⟨⟨p,hp,fun k hk=>h k (mem_joinL.2 (.inl hk))⟩,⟨q,hq,fun k hk=>h k (mem_joinL.2 (.inr hk))⟩⟩
     ·rintro ⟨⟨p,hp,h⟩,⟨q,hq,h'⟩⟩
      exact ⟨joinL p q,(hmem _).2 ⟨p,hp,q,hq,rfl⟩,fun k hk=>(mem_joinL.1 hk).elim (h k) (h' k)⟩
   ·simp only [mkF] at hw
    obtain ⟨x,s1,y,s2,h1,h2,h3⟩:=seq_some hw
    obtain ⟨k1,k2,kx,ky,sx,sy⟩:=two_ways ha.2 hb.2 hi h1 h2
    rw [Option.map_eq_some_iff] at h3
    obtain ⟨q,hq,h3⟩:=h3
    cases h3
    cases bothM_some hq
    refine ⟨k1,k2,(kx.prod ky).least,fun i=>?_⟩
    rw [mvS_eq,leastL_sat,prodL_sat,← mvS_eq,← mvS_eq,sx,sy,semF]
 | or a b iha ihb =>
   intro hn
   have ha:=iha (fun n h=>hn n (by simp [namesF,h]))
   have hb:=ihb (fun n h=>hn n (by simp [namesF,h]))
   refine ⟨fun s L s' hi hw=>?_,fun s L s' hi hw=>?_⟩
   ·simp only [mkF] at hw
    obtain ⟨x,s1,y,s2,h1,h2,h3⟩:=seq_some hw
    obtain ⟨k1,k2,kx,ky,nx,ny,sx,sy⟩:=two_sets ha.1 hb.1 hi h1 h2
    rw [Option.map_eq_some_iff] at h3
    obtain ⟨q,hq,h3⟩:=h3
    cases h3
    cases fewestM_some hq
    have hnd:∀ z∈x++y,z.Nodup:=fun z hz=>(List.mem_append.1 hz).elim (nx z) (ny z)
    refine ⟨k1,k2,fun z hz k hk=>(List.mem_append.1 (fewestL_sub hz)).elim (fun h=>kx z h k hk) (fun h=>ky z h k hk),fun z hz=>hnd z (fewestL_sub hz),fun i=>?_⟩
    rw [semF,← sx,← sy]
    refine (fewestL_sat (R:=fun k=>acc (staN s'.sts) σ k i) hnd).trans ?_
    unfold satS setS
    constructor
    ·rintro ⟨z,hz,h⟩
     exact (List.mem_append.1 hz).imp (fun hz=>⟨z,hz,h⟩) (fun hz=>⟨z,hz,h⟩)
    ·rintro (⟨z,hz,h⟩ | ⟨z,hz,h⟩)
     ·exact ⟨z,List.mem_append.2 (.inl hz),h⟩
     ·exact ⟨z,List.mem_append.2 (.inr hz),h⟩
   ·simp only [mkF] at hw
    obtain ⟨x,s1,y,s2,h1,h2,h3⟩:=seq_some hw
    obtain ⟨k1,k2,kx,ky,sx,sy⟩:=two_ways ha.2 hb.2 hi h1 h2
    rw [Option.map_eq_some_iff] at h3
    obtain ⟨q,hq,h3⟩:=h3
    cases h3
    cases leastM_some hq
    refine ⟨k1,k2,(kx.append ky).least,fun i=>?_⟩
    rw [mvS_eq,leastL_sat,satM_append,← mvS_eq,← mvS_eq,sx,sy,semF]
 | un a b iha ihb =>
   intro hn
   have ha:=iha (fun n h=>hn n (by simp [namesF,h]))
   have hb:=ihb (fun n h=>hn n (by simp [namesF,h]))
   have h:=until_ok ha.2 hb.2
   exact ⟨oneSet_ok h,cloneOf_ok h⟩
 | re a b iha ihb =>
   intro hn
   have ha:=iha (fun n h=>hn n (by simp [namesF,h]))
   have hb:=ihb (fun n h=>hn n (by simp [namesF,h]))
   have h:=release_ok ha.2 hb.2
   exact ⟨oneSet_ok h,cloneOf_ok h⟩
theorem made_says (hl:names.length≤64) {t:F} (hn:∀ n∈namesF t,n∈names) {I:List (List Nat)} {s:Mk} (h:(mkF names t).sets ⟨[],[]⟩=some (I,s)) :
 (∀ n,n < s.sts.length→∀ m∈(staN s.sts n).moves,∀ k∈m.to,k≤n)∧inLt I s.sts.length∧∀ σ : Nat→BitVec 64,setS (staN s.sts) σ I 0↔semF (bitsOf names σ) t 0:=by
 have hi:∀ σ : Nat→BitVec 64,Inv σ (bitsOf names σ) ⟨[],[]⟩:=fun σ=>⟨fun n hn=>(nomatch hn),fun t n h=>(nomatch h)⟩
 obtain ⟨k1,_,k3,_,_⟩:=(mkF_ok (σ:=fun _=>0) hl t hn).1 _ _ _ (hi _) h
 exact ⟨k1.to,k3,fun σ=>((mkF_ok (σ:=σ) hl t hn).1 _ _ _ (hi σ) h).2.2.2.2 0⟩
end
end Go.Proofs.YtkgfdgfhpdhhaaaGreat.PL
