/- Parts of the walks and of the plain theory, the first: What the maker computes is what is made, plain; the automaton accepts the words of which the formula holds. Conditions: the names may be, they are given. -/
import Derived.Test.YtkgfdgfhpdhhaaaGreatT35
import Derived.Test.YtkgfdgfhpdhhaaaGreatT37
import Derived.Test.YtkgfdgfhpdhhaaaGreatT30
import Derived.Test.YtkgfdgfhpdhhaaaGreatT31
namespace Go.Proofs.YtkgfdgfhpdhhaaaGreat
open PL (F Mv Sta posN posN_lt posN_next FX FX.congr fixL_pos)
theorem okU0:okU 0:=⟨by decide,by decide⟩
structure Rel (s:MkS) (p:PL.Mk):Prop where
 sts:p.sts=s.sts.map stP
 num:s.num=p.num.map fun x=>(keyT (tF x.1),x.2)
 ok:∀ x∈p.num,okF x.1
 good:∀ st∈s.sts,∀ m∈st.moves,okMv m
def WRel (wI:WaysI) (w:PL.Ways):Prop:=∀ s p M s',Rel s p→wI s=some (M,s')→∃ p',Rel s' p'∧w p=some (M.map mvP,p')∧∀ m∈M,okMv m
def SRel (wI:SetsI) (w:PL.Sets):Prop:=∀ s p M s',Rel s p→wI s=some (M,s')→∃ p',Rel s' p'∧w p=some (M.map setPl,p')∧∀ m∈M,okSet m
def NRel (wI:NumI) (w:PL.Num):Prop:=∀ s p n s',Rel s p→wI s=some (n,s')→∃ p',Rel s' p'∧w p=some (n,p')
theorem look_eq {f:F} (hf:okF f):∀ {l:List (F × Nat)},(∀ x∈l,okF x.1)→(l.map fun x=>(keyT (tF x.1),x.2)).lookup (keyT (tF f))=l.lookup f
 | [],_=>rfl
 | (g,n)::l,h=>by
   rw [List.map_cons,List.lookup_cons,List.lookup_cons,look_eq hf (fun x hx=>h x (List.mem_cons_of_mem _ hx))]
   have e:(keyT (tF f)==keyT (tF g))=(f==g):=by
    rw [Bool.eq_iff_iff,beq_iff_eq,beq_iff_eq]
    exact ⟨fun h2=>key_inj hf (h (g,n) (List.mem_cons_self ..)) h2,fun h2=>by rw [h2]⟩
   rw [e]
theorem Rel.len {s:MkS} {p:PL.Mk} (h:Rel s p):p.sts.length=s.sts.length:=by rw [h.sts,List.length_map]
theorem leastO_eq {l M:List Mvi} (hl:∀ m∈l,okMv m) (h:leastO l=some M):PL.leastM (l.map mvP)=some (M.map mvP)∧∀ m∈M,okMv m:=by
 unfold leastO at h
 unfold PL.leastM
 rw [List.length_map]
 by_cases hb:4096 < l.length
 ·rw [if_pos hb] at h;cases h
 ·rw [if_neg hb] at h
  cases h
  rw [if_neg hb]
  exact ⟨by rw [least_eq hl],fun m hm=>hl m (least_mem hm)⟩
theorem bothO_eq {a b M:List Mvi} (ha:∀ m∈a,okMv m) (hb:∀ m∈b,okMv m) (h:bothO a b=some M):PL.bothM (a.map mvP) (b.map mvP)=some (M.map mvP)∧∀ m∈M,okMv m:=by
 obtain ⟨h1,h2⟩:=prod_eq ha hb
 have:=leastO_eq (M:=M) h2 (by unfold bothO at h;unfold leastO;exact h)
 unfold PL.bothM
 rw [← h1]
 exact this
theorem fewestO_eq {l M:List (List Int)} (hl:∀ m∈l,okSet m) (h:fewestO l=some M):PL.fewestM (l.map setPl)=some (M.map setPl)∧∀ m∈M,okSet m:=by
 unfold fewestO at h
 unfold PL.fewestM
 rw [List.length_map]
 by_cases hb:4096 < l.length
 ·rw [if_pos hb] at h;cases h
 ·rw [if_neg hb] at h
  cases h
  rw [if_neg hb]
  exact ⟨by rw [fewest_eq hl],fun m hm=>hl m (fewestI_mem (Nat.le_refl _) hm)⟩
theorem state_rel {f:F} (hf:okF f) {fin:Bool} {raw:WaysI} {w:PL.Ways} (h:WRel raw w):NRel (stateI (keyT (tF f)) fin raw) (PL.stateOf f fin w):=by
 intro s p n s' hr hs
 have hlk:=look_eq hf hr.ok
 rw [← hr.num] at hlk
 unfold stateI at hs
 unfold PL.stateOf
 rw [← hlk]
 cases e:s.num.lookup (keyT (tF f)) with
 | some k =>
   rw [e] at hs
   cases hs
   exact ⟨p,hr,rfl⟩
 | none =>
   rw [e] at hs
   simp only at hs ⊢
   rw [Option.bind_eq_some_iff] at hs
   obtain ⟨⟨M,s1⟩,h1,h2⟩:=hs
   obtain ⟨p1,hr1,hw,hM⟩:=h s p M s1 hr h1
   rw [hw]
   simp only [Option.bind_some]
   simp only at h2
   have hmv:PL.movesN p1=sumN s1.sts:=by unfold PL.movesN;rw [hr1.sts,sum_eq]
   rw [hmv,List.length_map,hr1.len]
   by_cases hb:131072 < sumN s1.sts+M.length∨4096≤s1.sts.length
   ·rw [if_pos hb] at h2;cases h2
   ·rw [if_neg hb] at h2
    cases h2
    rw [if_neg hb]
    refine ⟨_,⟨?_,?_,?_,?_⟩,rfl⟩
    ·show p1.sts++_=_
     rw [hr1.sts,List.map_append];rfl
    ·show _=List.map _ ((f,s1.sts.length)::p1.num)
     rw [List.map_cons,← hr1.num]
    ·intro x hx
     rcases List.mem_cons.1 hx with rfl | hx
     ·exact hf
     ·exact hr1.ok x hx
    ·intro st hst m hm
     rcases List.mem_append.1 hst with hst | hst
     ·exact hr1.good st hst m hm
     ·rw [List.mem_singleton] at hst;subst hst;exact hM m hm
theorem one_rel {wI:NumI} {w:PL.Num} (h:NRel wI w):SRel (oneI wI) (PL.oneSet w):=by
 intro s p M s' hr hs
 unfold oneI at hs
 rw [Option.map_eq_some_iff] at hs
 obtain ⟨⟨n,s1⟩,h1,h2⟩:=hs
 cases h2
 obtain ⟨p1,hr1,hw⟩:=h s p n s1 hr h1
 refine ⟨p1,hr1,by unfold PL.oneSet;rw [hw];rfl,fun m hm=>?_⟩
 rw [List.mem_singleton] at hm
 subst hm
 intro k hk
 rw [List.mem_singleton] at hk
 subst hk
 exact Int.natCast_nonneg _
theorem kept_rel {wI:NumI} {w:PL.Num} (h:NRel wI w):WRel (waysK wI) (PL.cloneOf w):=by
 intro s p M s' hr hs
 unfold waysK at hs
 rw [Option.map_eq_some_iff] at hs
 obtain ⟨⟨n,s1⟩,h1,h2⟩:=hs
 cases h2
 obtain ⟨p1,hr1,hw⟩:=h s p n s1 hr h1
 refine ⟨p1,hr1,?_,fun m hm=>?_⟩
 ·unfold PL.cloneOf
  rw [hw]
  show some ((PL.staN p1.sts n).moves,p1)=_
  unfold PL.staN
  rw [hr1.sts,show (⟨[],false⟩:Sta)=stP s0 from rfl,getD_mapd]
  rfl
 ·have hm:m∈(s1.sts.getD n s0).moves:=hm
  rw [List.getD_eq_getElem?_getD] at hm
  cases e:s1.sts[n]? with
  | none=>rw [e] at hm;cases hm
  | some st=>rw [e] at hm;exact hr1.good st (List.mem_of_getElem? e) m hm
theorem and_rel {a b:WaysI} {a' b':PL.Ways} (ha:WRel a a') (hb:WRel b b'):WRel (andI a b) (PL.seqW a' b' fun x y s=>(PL.bothM x y).map fun l=>(l,s)):=by
 intro s p M s' hr hs
 unfold andI at hs
 rw [Option.bind_eq_some_iff] at hs
 obtain ⟨⟨x,s1⟩,h1,h2⟩:=hs
 rw [Option.bind_eq_some_iff] at h2
 obtain ⟨⟨y,s2⟩,h2,h3⟩:=h2
 rw [Option.map_eq_some_iff] at h3
 obtain ⟨q,h3,h4⟩:=h3
 cases h4
 obtain ⟨p1,hr1,hw1,hx⟩:=ha s p x s1 hr h1
 obtain ⟨p2,hr2,hw2,hy⟩:=hb s1 p1 y _ hr1 h2
 obtain ⟨e1,e2⟩:=bothO_eq hx hy h3
 refine ⟨p2,hr2,?_,e2⟩
 unfold PL.seqW
 rw [hw1]
 show Option.bind (b' p1) _=_
 rw [hw2]
 show Option.map _ (PL.bothM _ _)=_
 rw [e1];rfl
theorem mem_app {α : Type} {q : α→Prop} {a b:List α} (ha:∀ m∈a,q m) (hb:∀ m∈b,q m):∀ m∈a++b,q m:=fun m hm=>(List.mem_append.1 hm).elim (ha m) (hb m)
theorem or_rel {a b:WaysI} {a' b':PL.Ways} (ha:WRel a a') (hb:WRel b b'):WRel (orI a b) (PL.seqW a' b' fun x y s=>(PL.leastM (x++y)).map fun l=>(l,s)):=by
 intro s p M s' hr hs
 unfold orI at hs
 rw [Option.bind_eq_some_iff] at hs
 obtain ⟨⟨x,s1⟩,h1,h2⟩:=hs
 rw [Option.bind_eq_some_iff] at h2
 obtain ⟨⟨y,s2⟩,h2,h3⟩:=h2
 rw [Option.map_eq_some_iff] at h3
 obtain ⟨q,h3,h4⟩:=h3
 cases h4
 obtain ⟨p1,hr1,hw1,hx⟩:=ha s p x s1 hr h1
 obtain ⟨p2,hr2,hw2,hy⟩:=hb s1 p1 y _ hr1 h2
 obtain ⟨e1,e2⟩:=leastO_eq (mem_app hx hy) h3
 refine ⟨p2,hr2,?_,e2⟩
 unfold PL.seqW
 rw [hw1]
 show Option.bind (b' p1) _=_
 rw [hw2]
 show Option.map _ (PL.leastM _)=_
 rw [← List.map_append,e1];rfl
theorem sand_rel {a b:SetsI} {a' b':PL.Sets} (ha:SRel a a') (hb:SRel b b'):SRel (andS a b) (PL.seqW a' b' fun x y s=>(PL.fewestM (PL.joinsL x y)).map fun l=>(l,s)):=by
 intro s p M s' hr hs
 unfold andS at hs
 rw [Option.bind_eq_some_iff] at hs
 obtain ⟨⟨x,s1⟩,h1,h2⟩:=hs
 rw [Option.bind_eq_some_iff] at h2
 obtain ⟨⟨y,s2⟩,h2,h3⟩:=h2
 rw [Option.map_eq_some_iff] at h3
 obtain ⟨q,h3,h4⟩:=h3
 cases h4
 obtain ⟨p1,hr1,hw1,hx⟩:=ha s p x s1 hr h1
 obtain ⟨p2,hr2,hw2,hy⟩:=hb s1 p1 y _ hr1 h2
 obtain ⟨j1,j2⟩:=joins_eq hx hy
 obtain ⟨e1,e2⟩:=fewestO_eq j2 h3
 refine ⟨p2,hr2,?_,e2⟩
 unfold PL.seqW
 rw [hw1]
 show Option.bind (b' p1) _=_
 rw [hw2]
 show Option.map _ (PL.fewestM _)=_
 rw [← j1,e1];rfl
theorem sor_rel {a b:SetsI} {a' b':PL.Sets} (ha:SRel a a') (hb:SRel b b'):SRel (orS a b) (PL.seqW a' b' fun x y s=>(PL.fewestM (x++y)).map fun l=>(l,s)):=by
 intro s p M s' hr hs
 unfold orS at hs
 rw [Option.bind_eq_some_iff] at hs
 obtain ⟨⟨x,s1⟩,h1,h2⟩:=hs
 rw [Option.bind_eq_some_iff] at h2
 obtain ⟨⟨y,s2⟩,h2,h3⟩:=h2
 rw [Option.map_eq_some_iff] at h3
 obtain ⟨q,h3,h4⟩:=h3
 cases h4
 obtain ⟨p1,hr1,hw1,hx⟩:=ha s p x s1 hr h1
 obtain ⟨p2,hr2,hw2,hy⟩:=hb s1 p1 y _ hr1 h2
 obtain ⟨e1,e2⟩:=fewestO_eq (mem_app hx hy) h3
 refine ⟨p2,hr2,?_,e2⟩
 unfold PL.seqW
 rw [hw1]
 show Option.bind (b' p1) _=_
 rw [hw2]
 show Option.map _ (PL.fewestM _)=_
 rw [← List.map_append,e1];rfl
theorem own_ok (n:Nat):∀ m∈[(⟨0,0,[(n:Int)]⟩:Mvi)],okMv m:=fun m hm=>by
 rw [List.mem_singleton] at hm
 subst hm
 exact ⟨okU0,okU0,fun k hk=>by
  have hk:k∈[(n:Int)]:=hk
  rw [List.mem_singleton] at hk;omega⟩
theorem own_eq (n:Nat):[(⟨0,0,[(n:Int)]⟩:Mvi)].map mvP=[PL.ownM n]:=rfl
theorem until_rel {a b:WaysI} {a' b':PL.Ways} (ha:WRel a a') (hb:WRel b b'):WRel (untilI a b) (PL.untilW a' b'):=by
 intro s p M s' hr hs
 unfold untilI at hs
 rw [Option.bind_eq_some_iff] at hs
 obtain ⟨⟨x,s1⟩,h1,h2⟩:=hs
 rw [Option.bind_eq_some_iff] at h2
 obtain ⟨⟨y,s2⟩,h2,h3⟩:=h2
 rw [Option.bind_eq_some_iff] at h3
 obtain ⟨z,h3,h4⟩:=h3
 rw [Option.map_eq_some_iff] at h4
 obtain ⟨q,h4,h5⟩:=h4
 cases h5
 obtain ⟨p1,hr1,hw1,hx⟩:=ha s p x s1 hr h1
 obtain ⟨p2,hr2,hw2,hy⟩:=hb s1 p1 y _ hr1 h2
 obtain ⟨e1,e2⟩:=bothO_eq hx (own_ok _) h3
 obtain ⟨e3,e4⟩:=leastO_eq (mem_app hy e2) h4
 refine ⟨p2,hr2,?_,e4⟩
 unfold PL.untilW PL.seqW
 rw [hw1]
 show Option.bind (b' p1) _=_
 rw [hw2]
 show Option.bind (PL.bothM _ [PL.ownM p2.sts.length]) _=_
 rw [hr2.len,← own_eq,e1]
 show Option.map _ (PL.leastM _)=_
 rw [← List.map_append,e3];rfl
theorem release_rel {a b:WaysI} {a' b':PL.Ways} (ha:WRel a a') (hb:WRel b b'):WRel (releaseI a b) (PL.releaseW a' b'):=by
 intro s p M s' hr hs
 unfold releaseI at hs
 rw [Option.bind_eq_some_iff] at hs
 obtain ⟨⟨x,s1⟩,h1,h2⟩:=hs
 rw [Option.bind_eq_some_iff] at h2
 obtain ⟨⟨y,s2⟩,h2,h3⟩:=h2
 rw [Option.map_eq_some_iff] at h3
 obtain ⟨q,h3,h4⟩:=h3
 cases h4
 obtain ⟨p1,hr1,hw1,hx⟩:=ha s p x s1 hr h1
 obtain ⟨p2,hr2,hw2,hy⟩:=hb s1 p1 y _ hr1 h2
 obtain ⟨e1,e2⟩:=bothO_eq hy (mem_app hx (own_ok _)) h3
 refine ⟨p2,hr2,?_,e2⟩
 unfold PL.releaseW PL.seqW
 rw [hw1]
 show Option.bind (b' p1) _=_
 rw [hw2]
 show Option.map _ (PL.bothM _ (_++[PL.ownM p2.sts.length]))=_
 rw [hr2.len,← own_eq,← List.map_append,e1];rfl
theorem next_rel {a:SetsI} {a':PL.Sets} (ha:SRel a a'):WRel (waysN a) (fun s=>(a' s).map fun (l,s')=>(l.map fun x=>⟨0,0,x⟩,s')):=by
 intro s p M s' hr hs
 unfold waysN at hs
 rw [Option.map_eq_some_iff] at hs
 obtain ⟨⟨n,s1⟩,h1,h2⟩:=hs
 cases h2
 obtain ⟨p1,hr1,hw,hx⟩:=ha s p n s1 hr h1
 refine ⟨p1,hr1,?_,fun m hm=>?_⟩
 ·show Option.map _ (a' p)=_
  rw [hw]
  show some ((n.map setPl).map (fun x=>(⟨0,0,x⟩:Mv)),p1)=some ((n.map toM).map mvP,p1)
  rw [List.map_map,List.map_map]
  rfl
 ·obtain ⟨l,hl,rfl⟩:=List.mem_map.1 hm
  exact ⟨okU0,okU0,hx l hl⟩
theorem pow_bv:∀ k:Nat,k < 64→bvU (2 ^ k)=1#64 <<< k∧okU (2 ^ k):=by unfold okU;decide
theorem bit_bv {L:List (List UInt8)} {n:List UInt8} (hL:L.length≤64) (h:n∈L):bvU (bitI L n)=PL.bitM L n∧okU (bitI L n) :=
 pow_bv _ (by have:=List.idxOf_lt_length_iff.2 h;omega)
theorem mk_rel {L:List (List UInt8)} (hL:L.length≤64):∀ f:F,okF f→(∀ n∈PL.namesF f,n∈L)→SRel (mkI L f).sets (PL.mkF L f).sets∧WRel (mkI L f).ways (PL.mkF L f).ways:=by
 have hlit:∀ m:Mvi,okMv m→WRel (fun s=>some ([m],s)) (fun s=>some ([mvP m],s)):=fun m hm s p M s' hr hs=>by
  cases hs
  exact ⟨p,hr,rfl,fun x hx=>by rw [List.mem_singleton] at hx;subst hx;exact hm⟩
 intro f
 induction f with
 | tt =>
   intro _ _
   refine ⟨fun s p M s' hr hs=>?_,hlit ⟨0,0,[]⟩ okMv0⟩
   cases hs
   exact ⟨p,hr,rfl,fun x hx=>by rw [List.mem_singleton] at hx;subst hx;exact fun _ h=>nomatch h⟩
 | ff =>
   intro _ _
   refine ⟨fun s p M s' hr hs=>?_,fun s p M s' hr hs=>?_⟩
   ·cases hs;exact ⟨p,hr,rfl,fun x hx=>nomatch hx⟩
   ·cases hs;exact ⟨p,hr,rfl,fun x hx=>nomatch hx⟩
 | pr n =>
   intro hf hn
   obtain ⟨b1,b2⟩:=bit_bv hL (hn n (by simp [PL.namesF]))
   have hw:=hlit ⟨bitI L n,0,[]⟩ ⟨b2,okU0,fun _ h=>nomatch h⟩
   unfold mvP at hw
   rw [b1] at hw
   exact ⟨one_rel (state_rel hf hw),hw⟩
 | np n =>
   intro hf hn
   obtain ⟨b1,b2⟩:=bit_bv hL (hn n (by simp [PL.namesF]))
   have hw:=hlit ⟨0,bitI L n,[]⟩ ⟨okU0,b2,fun _ h=>nomatch h⟩
   unfold mvP at hw
   rw [b1] at hw
   exact ⟨one_rel (state_rel hf hw),hw⟩
 | nx a ih =>
   intro hf hn
   have hw:=next_rel (ih (okF.nx.1 hf) hn).1
   exact ⟨one_rel (state_rel hf hw),hw⟩
 | an a b iha ihb =>
   intro hf hn
   have ha:=iha (okF.an.1 hf).1 (fun n h=>hn n (by simp [PL.namesF,h]))
   have hb:=ihb (okF.an.1 hf).2 (fun n h=>hn n (by simp [PL.namesF,h]))
   exact ⟨sand_rel ha.1 hb.1,and_rel ha.2 hb.2⟩
 | or a b iha ihb =>
   intro hf hn
   have ha:=iha (okF.or.1 hf).1 (fun n h=>hn n (by simp [PL.namesF,h]))
   have hb:=ihb (okF.or.1 hf).2 (fun n h=>hn n (by simp [PL.namesF,h]))
   exact ⟨sor_rel ha.1 hb.1,or_rel ha.2 hb.2⟩
 | un a b iha ihb =>
   intro hf hn
   have ha:=iha (okF.un.1 hf).1 (fun n h=>hn n (by simp [PL.namesF,h]))
   have hb:=ihb (okF.un.1 hf).2 (fun n h=>hn n (by simp [PL.namesF,h]))
   have hs:=state_rel (fin:=true) hf (until_rel ha.2 hb.2)
   exact ⟨one_rel hs,kept_rel hs⟩
 | re a b iha ihb =>
   intro hf hn
   have ha:=iha (okF.re.1 hf).1 (fun n h=>hn n (by simp [PL.namesF,h]))
   have hb:=ihb (okF.re.1 hf).2 (fun n h=>hn n (by simp [PL.namesF,h]))
   have hs:=state_rel (fin:=false) hf (release_rel ha.2 hb.2)
   exact ⟨one_rel hs,kept_rel hs⟩
theorem has_eq {m:Mvi} (h:okMv m) (x:Int):hasI m.yes m.no x=PL.hasM (mvP m) (bvU x):=by
 unfold hasI PL.hasM mvP
 rw [bits_bv,bits_bv,zero_bv]
 congr 1
 have:=bvU_nat h.1
 show (((bvU x &&& bvU m.yes).toNat:Int)==m.yes)=(bvU x &&& bvU m.yes==bvU m.yes)
 rw [Bool.eq_iff_iff,beq_iff_eq,beq_iff_eq]
 constructor
 ·intro e;apply BitVec.eq_of_toNat_eq;omega
 ·intro e;rw [e];exact this
theorem rows_acc {S:List Sti} {np:Nat} {M:List Int} (hnp:np < M.length) (hok:∀ st∈S,∀ m∈st.moves,okMv m) (hto:∀ n,n < S.length→∀ m∈(S.getD n s0).moves,∀ k∈m.to,k≤(n:Int)) :
 ∀ n m,n < m→m≤S.length→∀ i,((rowsR S M np m).getD n []).getD (posN np M.length i) false=true↔PL.acc (PL.staN (S.map stP)) (fun i=>bvU (M.getD (posN np M.length i) 0)) n i:=by
 intro n
 induction n using Nat.strongRecOn with
 | ind n ih =>
   intro m hm hmS i
   have hat:∀ m,n < m→(rowsR S M np m).getD n []=rowR (rowsR S M np n) (S.getD n s0) M np n:=by
    intro m
    induction m with
    | zero=>intro h;omega
    | succ m ih2 =>
      intro h
      rw [rowsR]
      have hl:=rowsR_length S M np m
      by_cases e:n=m
      ·subst e
       rw [List.getD_eq_getElem?_getD,List.getElem?_append_right (by omega),hl,Nat.sub_self];rfl
      ·rw [List.getD_eq_getElem?_getD,List.getElem?_append_left (by omega),← List.getD_eq_getElem?_getD]
       exact ih2 (by omega)
   have hst:PL.staN (S.map stP) n=stP (S.getD n s0):=by unfold PL.staN;rw [show (⟨[],false⟩:Sta)=stP s0 from rfl,getD_mapd]
   have hokn:∀ m∈(S.getD n s0).moves,okMv m:=fun m hm=>by
    rw [List.getD_eq_getElem?_getD,List.getElem?_eq_getElem (by omega)] at hm
    exact hok _ (List.getElem_mem (by omega)) m hm
   rw [hat m hm,rowR_fix hnp (posN_lt hnp i),fixL_pos hnp,PL.acc_eq,hst]
   have key:∀ own j,((leavesR (rowsR S M np n) (S.getD n s0).moves M np n own).getD (posN np M.length j) false=true) ↔
    PL.TakeM (PL.staN (S.map stP)) (fun i=>bvU (M.getD (posN np M.length i) 0)) (fun k j=>k < n∧PL.acc (PL.staN (S.map stP)) (fun i=>bvU (M.getD (posN np M.length i) 0)) k j) n j own:=by
    intro own j
    rw [leavesR_getD (posN_lt hnp j)]
    unfold stepB PL.TakeM
    rw [hst,List.any_eq_true]
    have hex:(∃ m∈(stP (S.getD n s0)).moves,PL.hasM m (bvU (M.getD (posN np M.length j) 0))=true∧(n∈m.to↔own=true)∧∀ k∈m.to,k≠n→k < n∧PL.acc (PL.staN (S.map stP)) (fun i=>bvU (M.getD (posN np M.length i) 0)) k (j+1)) ↔
     ∃ m∈(S.getD n s0).moves,PL.hasM (mvP m) (bvU (M.getD (posN np M.length j) 0))=true∧(n∈(mvP m).to↔own=true)∧∀ k∈(mvP m).to,k≠n→k < n∧PL.acc (PL.staN (S.map stP)) (fun i=>bvU (M.getD (posN np M.length i) 0)) k (j+1):=by
     constructor
     ·rintro ⟨m,hm,h⟩
      obtain ⟨m',hm',rfl⟩:=List.mem_map.1 hm
      exact ⟨m',hm',h⟩
     ·rintro ⟨m,hm,h⟩
      exact ⟨_,List.mem_map.2 ⟨m,hm,rfl⟩,h⟩
    rw [hex]
    refine exists_congr fun mv=>and_congr_right fun hmv=>?_
    have hmo:=hokn mv hmv
    unfold stepM
    rw [Bool.and_eq_true,Bool.and_eq_true,has_eq hmo,and_assoc,← posN_next]
    refine and_congr Iff.rfl ?_
    rw [and_comm]
    refine and_congr ?_ ?_
    ·rw [beq_iff_eq]
     have hmem:(mv.to.any fun k=>k==(n:Int))=true↔n∈(mvP mv).to:=by
      rw [show n=((n:Int)).toNat from rfl]
      show _↔(n:Int).toNat∈setPl mv.to
      rw [setPl_mem hmo.2.2 (Int.natCast_nonneg n),List.any_eq_true]
      constructor
      ·rintro ⟨k,hk,e⟩
       rw [beq_iff_eq] at e
       have e:k=(n:Int):=e
       rw [← e];exact hk
      ·intro h;exact ⟨_,h,beq_iff_eq.2 rfl⟩
     rw [← hmem]
     cases own
     ·exact ⟨fun e=>⟨fun h=>by rw [e] at h;exact h,fun h=>by cases h⟩,fun e=>by rw [Bool.eq_false_iff];intro h;have:=e.1 h;cases this⟩
     ·exact ⟨fun e=>⟨fun _=>rfl,fun _=>e⟩,fun e=>e.2 rfl⟩
    ·unfold othersR
     rw [List.all_eq_true]
     constructor
     ·intro h k hk hne
      obtain ⟨x,hx,rfl⟩:=List.mem_map.1 hk
      have h1:=h x hx
      have h0:=hmo.2.2 x hx
      have hle:=hto n (by omega) mv hmv x hx
      rw [Bool.or_eq_true,beq_iff_eq] at h1
      rcases h1 with h1 | h1
      ·omega
      ·exact ⟨by omega,(ih x.toNat (by omega) n (by omega) (by omega) (j+1)).1 h1⟩
     ·intro h x hx
      have h0:=hmo.2.2 x hx
      have hle:=hto n (by omega) mv hmv x hx
      rw [Bool.or_eq_true,beq_iff_eq]
      by_cases e:x=(n:Int)
      ·exact .inl e
      ·obtain ⟨h1,h2⟩:=h x.toNat (List.mem_map.2 ⟨x,hx,rfl⟩) (by omega)
       exact .inr ((ih x.toNat (by omega) n (by omega) (by omega) (j+1)).2 h2)
   exact FX.congr (key false) (key true) i
theorem made_iff {L:List (List UInt8)} (hL:L.length≤64) {f:F} (hf:okF f) (hn:∀ n∈PL.namesF f,n∈L) {I:List (List Int)} {s':MkS} (h:(mkI L f).sets ⟨[],[]⟩=some (I,s')) (hck:checkAN I s'.sts=0) {P Q:List Int} (hq:0 < Q.length) :
 accI I s'.sts (P++Q) P.length=true↔PL.semF (PL.bitsOf L fun i=>bvU ((P++Q).getD (posN P.length (P++Q).length i) 0)) f 0:=by
 have hnp:P.length < (P++Q).length:=by rw [List.length_append];omega
 obtain ⟨p',hr,hw,hok⟩:=(mk_rel hL f hf hn).1 ⟨[],[]⟩ ⟨[],[]⟩ I s' ⟨rfl,rfl,(fun x hx=>nomatch hx),(fun x hx=>nomatch hx)⟩ h
 obtain ⟨-,h2,h3⟩:=PL.made_says hL hn hw
 have hfine:fineA I s'.sts:=by
  unfold checkAN at hck
  by_cases hf:fineA I s'.sts
  ·exact hf
  ·rw [if_neg hf] at hck;cases hck
 rw [← h3,hr.sts]
 unfold accI PL.setS
 rw [rowsI_rowsR hnp hfine.2.2.2.1 _ (Nat.le_refl _),List.any_eq_true]
 have hto:∀ n,n < s'.sts.length→∀ m∈(s'.sts.getD n s0).moves,∀ k∈m.to,k≤(n:Int):=fun n hn m hm k hk=>(state_to (hfine.2.2.2.1 n hn) m hm k hk).2
 have key:∀ k:Nat,k < s'.sts.length→(((rowsR s'.sts (P++Q) P.length s'.sts.length).getD k []).getD 0 false=true↔PL.acc (PL.staN (s'.sts.map stP)) (fun i=>bvU ((P++Q).getD (posN P.length (P++Q).length i) 0)) k 0):=fun k hk=>rows_acc hnp hr.good hto k _ hk (Nat.le_refl _) 0
 have hlt:∀ l∈I,∀ k∈l,k.toNat < s'.sts.length:=fun l hl k hk=>by
  have:=h2 (setPl l) (List.mem_map.2 ⟨l,hl,rfl⟩) k.toNat (List.mem_map.2 ⟨k,hk,rfl⟩)
  rw [hr.len] at this
  exact this
 have hall:∀ l,allR (rowsR s'.sts (P++Q) P.length s'.sts.length) l 0=true↔∀ k∈l,((rowsR s'.sts (P++Q) P.length s'.sts.length).getD k.toNat []).getD 0 false=true:=fun l=>by
  unfold allR
  rw [List.not_any_eq_all_not,List.all_eq_true]
  simp only [Bool.not_not]
 constructor
 ·rintro ⟨l,hl,h⟩
  refine ⟨setPl l,List.mem_map.2 ⟨l,hl,rfl⟩,fun k hk=>?_⟩
  obtain ⟨x,hx,rfl⟩:=List.mem_map.1 hk
  exact (key _ (hlt l hl x hx)).1 ((hall l).1 h x hx)
 ·rintro ⟨z,hz,h⟩
  obtain ⟨l,hl,rfl⟩:=List.mem_map.1 hz
  exact ⟨l,hl,(hall l).2 fun x hx=>(key _ (hlt l hl x hx)).2 (h _ (List.mem_map.2 ⟨x,hx,rfl⟩))⟩
end Go.Proofs.YtkgfdgfhpdhhaaaGreat
namespace Go.Proofs.YtkgfdgfhpdhhaaaGreat
open PL (F posN)
def Op (f g:F):Prop:=∀ (τ : Nat→List UInt8→Prop) (i:Nat),PL.semF τ g i↔¬ PL.semF τ f i
theorem Op.symm {f g:F} (h:Op f g):Op g f:=fun τ i=>by rw [h τ i,Classical.not_not]
theorem Op.an {a b c d:F} (h:Op a c) (k:Op b d):Op (.an a b) (.or c d):=fun τ i=>by
 simp only [PL.semF]
 rw [h τ i,k τ i,← Classical.not_and_iff_not_or_not]
theorem Op.or {a b c d:F} (h:Op a c) (k:Op b d):Op (.or a b) (.an c d):=fun τ i=>by
 simp only [PL.semF]
 rw [h τ i,k τ i,not_or]
theorem Op.nx {a c:F} (h:Op a c):Op (.nx a) (.nx c):=fun τ i=>h τ (i+1)
theorem Op.un {a b c d:F} (h:Op a c) (k:Op b d):Op (.un a b) (.re c d):=fun τ i=>by
 simp only [PL.semF]
 constructor
 ·rintro hr ⟨n,hb,ha⟩
  rcases hr n with h1 | ⟨j,hj,h1⟩
  ·exact (k τ _).1 h1 hb
  ·exact (h τ _).1 h1 (ha j hj)
 ·intro hn n
  by_cases hb:PL.semF τ b (i+n)
  ·refine .inr (Classical.byContradiction fun hc=>hn ⟨n,hb,fun j hj=>?_⟩)
   exact Classical.byContradiction fun ha=>hc ⟨j,hj,(h τ _).2 ha⟩
  ·exact .inl ((k τ _).2 hb)
theorem Op.re {a b c d:F} (h:Op a c) (k:Op b d):Op (.re a b) (.un c d):=(Op.un h.symm k.symm).symm
def Nn (t:T) (f:F):Prop:=∀ n∈PL.namesF f,∃ u∈allT t,u.kind=3∧u.name=n
theorem Nn.kid {t a:T} {f:F} (h:Nn a f) (ha:a∈t.kids):Nn t f:=fun n hn=>by
 obtain ⟨u,hu,hk⟩:=h n hn
 have key:∀ l:List T,a∈l→u∈allL l:=by
  intro l
  induction l with
  | nil=>intro e;cases e
  | cons x l ih =>
    intro e
    rw [allL,List.mem_append]
    rcases List.mem_cons.1 e with rfl | e
    ·exact .inl hu
    ·exact .inr (ih e)
 refine ⟨u,?_,hk⟩
 cases t with
 | node k nm kids=>rw [allT];exact List.mem_cons_of_mem _ (key kids ha)
theorem Nn.and {t:T} {f g:F} (h:Nn t f) (k:Nn t g):∀ n∈PL.namesF f++PL.namesF g,∃ u∈allT t,u.kind=3∧u.name=n:=fun n hn=>(List.mem_append.1 hn).elim (h n) (k n)
theorem nf_opp:∀ t:T,mayT t=true→∃ f g,nfT t false=tF f∧nfT t true=tF g∧Op f g∧Nn t f∧Nn t g:=by
 refine kid_induct ?_
 intro t ih h
 rw [nfT_eq,nfT_eq]
 rcases may_shape h with ⟨hk,hn,hl⟩ | ⟨hk,hn,hl⟩ | ⟨hk,hn,a,hl,ha⟩ | ⟨hk,hn,a,b,hl,ha,hb⟩
 ·rw [if_pos hk,if_pos hk]
  rcases hk with e | e <;> rw [e]
  ·exact ⟨.tt,.ff,rfl,rfl,(fun τ i=>by simp [PL.semF]),(fun n hn=>nomatch hn),(fun n hn=>nomatch hn)⟩
  ·exact ⟨.ff,.tt,rfl,rfl,(fun τ i=>by simp [PL.semF]),(fun n hn=>nomatch hn),(fun n hn=>nomatch hn)⟩
 ·have h12:¬ (t.kind=1∨t.kind=2):=by omega
  rw [if_neg h12,if_neg h12,if_pos hk,if_pos hk]
  have hnn:∀ n∈[t.name],∃ u∈allT t,u.kind=3∧u.name=n:=fun n hn=>⟨t,by cases t;rw [allT];exact List.mem_cons_self ..,hk,(List.mem_singleton.1 hn).symm⟩
  exact ⟨.pr t.name,.np t.name,rfl,rfl,(fun τ i=>Iff.rfl),hnn,hnn⟩
 ·have h12:¬ (t.kind=1∨t.kind=2):=by omega
  have h3:¬ t.kind=3:=by omega
  rw [if_neg h12,if_neg h12,if_neg h3,if_neg h3,hl,nfL_one,nfL_one]
  obtain ⟨f,g,e1,e2,ho,nf,ng⟩:=ih a (by rw [hl];simp) ha
  replace nf:=nf.kid (t:=t) (by rw [hl];simp)
  replace ng:=ng.kid (t:=t) (by rw [hl];simp)
  have htf:Op .tt .ff:=fun τ i=>by simp [PL.semF]
  have hk':t.kind=4∨t.kind=5∨t.kind=6∨t.kind=7:=by omega
  rcases hk' with e | e | e | e <;> rw [e] <;> simp only [Bool.not_false,Bool.not_true,e1,e2]
  ·exact ⟨g,f,rfl,rfl,ho.symm,ng,nf⟩
  ·exact ⟨.nx f,.nx g,rfl,rfl,ho.nx,nf,ng⟩
  ·exact ⟨.re .ff f,.un .tt g,rfl,rfl,Op.re htf.symm ho,nf,ng⟩
  ·exact ⟨.un .tt f,.re .ff g,rfl,rfl,Op.un htf ho,nf,ng⟩
 ·have h12:¬ (t.kind=1∨t.kind=2):=by omega
  have h3:¬ t.kind=3:=by omega
  rw [if_neg h12,if_neg h12,if_neg h3,if_neg h3,hl,nfL_two,nfL_two]
  obtain ⟨f,g,e1,e2,ho,nf,ng⟩:=ih a (by rw [hl];simp) ha
  obtain ⟨p,q,d1,d2,hp,np,nq⟩:=ih b (by rw [hl];simp) hb
  replace nf:=nf.kid (t:=t) (by rw [hl];simp)
  replace ng:=ng.kid (t:=t) (by rw [hl];simp)
  replace np:=np.kid (t:=t) (by rw [hl];simp)
  replace nq:=nq.kid (t:=t) (by rw [hl];simp)
  have hk':t.kind=8∨t.kind=9∨t.kind=10∨t.kind=11∨t.kind=12∨t.kind=13∨t.kind=14:=by omega
  rcases hk' with e | e | e | e | e | e | e <;> rw [e] <;> simp only [Bool.not_false,Bool.not_true,e1,e2,d1,d2]
  ·exact ⟨.an f p,.or g q,rfl,rfl,Op.an ho hp,nf.and np,ng.and nq⟩
  ·exact ⟨.or f p,.an g q,rfl,rfl,Op.or ho hp,nf.and np,ng.and nq⟩
  ·exact ⟨.or g p,.an f q,rfl,rfl,Op.or ho.symm hp,ng.and np,nf.and nq⟩
  ·refine ⟨.or (.an f p) (.an g q),.or (.an f q) (.an g p),rfl,rfl,(fun τ i=>?_),(Nn.and (f:= .an f p) (g:= .an g q) (nf.and np) (ng.and nq)),(Nn.and (f:= .an f q) (g:= .an g p) (nf.and nq) (ng.and np))⟩
   have h1:=ho τ i
   have h2:=hp τ i
   simp only [PL.semF]
   rw [h1,h2]
   by_cases u:PL.semF τ f i <;> by_cases v:PL.semF τ p i <;> simp [u,v]
  ·exact ⟨.un f p,.re g q,rfl,rfl,Op.un ho hp,nf.and np,ng.and nq⟩
  ·exact ⟨.re f p,.un g q,rfl,rfl,Op.re ho hp,nf.and np,ng.and nq⟩
  ·exact ⟨.re p (.or f p),.un q (.an g q),rfl,rfl,Op.re hp (Op.or ho hp),np.and (nf.and np),nq.and (ng.and nq)⟩
def holdsT (t:T) (names:List (List UInt8)) (P Q:List Int):Prop:=∃ f,nfT t false=tF f∧PL.semF (PL.bitsOf names fun i=>bvU ((P++Q).getD (posN P.length (P++Q).length i) 0)) f 0
theorem holds_one {t:T} {f:F} (h:nfT t false=tF f) {names:List (List UInt8)} {P Q:List Int}:holdsT t names P Q↔PL.semF (PL.bitsOf names fun i=>bvU ((P++Q).getD (posN P.length (P++Q).length i) 0)) f 0:=by
 constructor
 ·rintro ⟨g,hg,hs⟩
  rw [← tF_inj _ _ (h.symm.trans hg)] at hs
  exact hs
 ·intro hs;exact ⟨f,h,hs⟩
theorem nf_not (a:T):nfT (.node 4 [] [a]) false=nfT a true:=by
 rw [nfT_eq]
 show nfL 4 [a] false=_
 rw [nfL_one]
 rfl
theorem nf_and (a b:T):nfT (.node 8 [] [a,b]) false = .node 8 [] [nfT a false,nfT b false]:=by
 rw [nfT_eq]
 show nfL 8 [a,b] false=_
 rw [nfL_two]
 rfl
theorem nf_or (a b:T):nfT (.node 9 [] [a,b]) false = .node 9 [] [nfT a false,nfT b false]:=by
 rw [nfT_eq]
 show nfL 9 [a,b] false=_
 rw [nfL_two]
 rfl
section
variable {names : List (List UInt8)} {P Q : List Int} {a b : T}
theorem holds_not (ha:mayT a=true):holdsT (.node 4 [] [a]) names P Q↔¬ holdsT a names P Q:=by
 obtain ⟨f,g,e1,e2,ho,-⟩:=nf_opp a ha
 rw [holds_one e1,holds_one (f:=g) (by rw [nf_not,e2])]
 exact ho _ 0
theorem holds_and (ha:mayT a=true) (hb:mayT b=true):holdsT (.node 8 [] [a,b]) names P Q↔holdsT a names P Q∧holdsT b names P Q:=by
 obtain ⟨f,_,e1,-⟩:=nf_opp a ha
 obtain ⟨p,_,d1,-⟩:=nf_opp b hb
 rw [holds_one e1,holds_one d1,holds_one (f:= .an f p) (by rw [nf_and,e1,d1];rfl)]
 rfl
theorem holds_or (ha:mayT a=true) (hb:mayT b=true):holdsT (.node 9 [] [a,b]) names P Q↔holdsT a names P Q∨holdsT b names P Q:=by
 obtain ⟨f,_,e1,-⟩:=nf_opp a ha
 obtain ⟨p,_,d1,-⟩:=nf_opp b hb
 rw [holds_one e1,holds_one d1,holds_one (f:= .or f p) (by rw [nf_or,e1,d1];rfl)]
 rfl
end
theorem key_size:∀ f:F,okF f→(keyT (tF f)).length≤40 * PL.sizeF f:=by
 have hn32:∀ {n:List UInt8},nameB n=true→n.length≤32:=fun {n} h=>by
  unfold nameB at h
  rw [Bool.and_eq_true,Bool.and_eq_true,Bool.and_eq_true] at h
  exact of_decide_eq_true h.1.1.1
 intro f
 induction f with
 | tt | ff=>intro _;simp [key_tt,key_ff,PL.sizeF]
 | pr n=>intro h;have:=hn32 (h n (by simp [PL.namesF]));simp [key_pr,PL.sizeF];omega
 | np n=>intro h;have:=hn32 (h n (by simp [PL.namesF]));simp [key_np,PL.sizeF];omega
 | nx a ih=>intro h;have:=ih (okF.nx.1 h);simp [key_nx,PL.sizeF];omega
 | an a b iha ihb=>intro h;have:=iha (okF.an.1 h).1;have:=ihb (okF.an.1 h).2;simp [key_an,PL.sizeF];omega
 | or a b iha ihb=>intro h;have:=iha (okF.or.1 h).1;have:=ihb (okF.or.1 h).2;simp [key_or,PL.sizeF];omega
 | un a b iha ihb=>intro h;have:=iha (okF.un.1 h).1;have:=ihb (okF.un.1 h).2;simp [key_un,PL.sizeF];omega
 | re a b iha ihb=>intro h;have:=iha (okF.re.1 h).1;have:=ihb (okF.re.1 h).2;simp [key_re,PL.sizeF];omega
theorem of_pick (t:T) (names:List (List UInt8)):∃ q:SetsI,(∀ nv r,RewOf t r→checkedN t names 0 1=0→normN t=0→∀ (R:Nat→Prop) (mb:Nat),SetsC R mb nv names r q) ∧
 (checkedN t names 0 1=0→normN t=0→∀ I s',q ⟨[],[]⟩=some (I,s')→checkAN I s'.sts=0→∀ P Q:List Int,0 < Q.length→(accI I s'.sts (P++Q) P.length=true↔holdsT t names P Q)):=by
 by_cases hc:checkedN t names 0 1=0∧normN t=0
 ·obtain ⟨hc,hn⟩:=hc
  obtain ⟨hck,hl60,hnm⟩:checkN t=0∧names.length≤60∧∀ x∈namesT t,x∈names:=by
   have:=checkedN_zero hc
   exact ⟨this.1,this.2.1,this.2.2.1⟩
  have hmay:=(checkN_zero hck).1
  obtain ⟨f,g,hf,-,-,hnn,-⟩:=nf_opp t hmay
  obtain ⟨f',hf',hok⟩:=nf_tF t hmay false
  obtain rfl:=tF_inj _ _ (hf'.symm.trans hf)
  have hok2:okF (PL.smallF f'):=fun n hn=>hok n ((PL.smallF_le f').names n hn)
  have hL:names.length≤64:=by omega
  have hin:∀ n∈PL.namesF (PL.smallF f'),n∈names:=fun n h=>by
   obtain ⟨u,hu,hk,e⟩:=hnn n ((PL.smallF_le f').names n h)
   have:=names_in hnm u hu hk
   rw [← e];exact this
  have hnt:normT t=tF f':=by unfold normT;rw [if_pos hn,hf]
  have hks:(keyT (tF (PL.smallF f'))).length≤1000000000:=by
   have h1:=key_size _ hok2
   have h2:=(PL.smallF_le f').size
   have h3:PL.sizeF f'≤20000:=by
    rw [← tF_size,← hf]
    unfold normN at hn
    rw [if_pos hck] at hn
    by_cases h:sizeT (nfT t false)≤20000
    ·exact h
    ·rw [if_neg h] at hn;cases hn
   omega
  refine ⟨(mkI names (PL.smallF f')).sets,fun nv r hr _ _ R mb=>?_,fun _ _ I s' h hck P Q hq=>?_⟩
  ·rcases hr with ⟨h,_⟩ | ⟨_,f2,h2,_,rfl⟩
   ·exact absurd hn h
   ·obtain rfl:=tF_inj _ _ (h2.symm.trans hnt)
    exact (mk_any hL _ hin hks R mb nv).1
  ·rw [made_iff hL hok2 hin h hck hq,holds_one hf]
   exact PL.smallF_sem f' 0
 ·exact ⟨fun _=>none,fun _ _ _ h1 h2=>absurd ⟨h1,h2⟩ hc,fun h1 h2=>absurd ⟨h1,h2⟩ hc⟩
end Go.Proofs.YtkgfdgfhpdhhaaaGreat
namespace Go.Proofs.YtkgfdgfhpdhhaaaGreat
open Go.ChangeShapes Go.WideShapes Go.ChangeAt Go.RowKit Go.Maps
attribute [local go_sem] Oper.semAt_some
set_option maxRecDepth 100000
set_option maxHeartbeats 1000000
theorem acatch_much (p q:Nat) (a0 a1 m0:Value) (w:World) (hp:w.heap[p]? = some (.cells #[a0,a1] 38 (0,0))) (hq:w.heap[q]? = some (.cells #[m0] 32 (0,0))) (hpq:p≠q) :
 CallsD Tryz.prog 29 #[.pointer (some ⟨p,0,none⟩),.pointer (some ⟨q,0,none⟩)] (.panicking manyE) w fun e u' w' =>
  e = .returned (.tuple #[])∧u' = .panicking [{ v:= .iface 57 (.agg #[]),recovered:=true }] ∧
    Chg (fun k=>k=p∨k=q) w w'∧w'.heap[p]? = some (.cells #[.slice none 0 0,.slice none 0 0] 38 (0,0))∧w'.heap[q]? = some (.cells #[.int .i64 131] 32 (0,0)):=by
 have hta:∀ w:World,(Instr.typeAssert (.iface 57 (.agg #[])) 20 57 true).run Tryz.prog w = .ok (.tuple #[.agg #[],.bool true]) w:=fun _=>by kernel_rfl
 have h20:Tryz.prog.underlying 20=some (.interface (Tryz.prog.methodsAt 20)):=by kernel_rfl
 have hne:∀ w:World,(Go.binOp .neq 20 (.iface 57 (.agg #[])) .nilIface).run Tryz.prog w = .ok (.bool true) w:=fun w=>Go.run_neq_held_nil w 20 57 _ h20
 have hp1:=((Chg.refl Nob w).alloc (.cells #[] 57)).at hp (fun e=>e)
 have hq1:=((Chg.refl Nob w).alloc (.cells #[] 57)).at hq (fun e=>e)
 have hc1:Chg Nob w (w.alloc (.cells #[] 57)):=(Chg.refl _ _).alloc _
 obtain ⟨c0,c1,f0,f1⟩:=cell_two hp1
 have d0:=cell_row hq1 0 (v:=m0) rfl
 have g0:(w.alloc (.cells #[] 57)).frozen? ⟨q,0,none⟩=false:=by simp [World.frozen?,hq1]
 have hn3:q≠p:=fun e=>hpq e.symm
 have Hp1:=Lib.hid hp1
 have Hq1:=Lib.hid hq1
 clear hp hq hp1 hq1
 refine callsD_of_wpS Tryz.func29 rfl fun c₀ cs hu=>?_
 apply wpS_seq
 apply wpS_region
 unfold manyE at hu
 simp [wpOpsS,go_sem,recoverD,hu,Tryz.ntmps29,Exit.thenS]
 simp only [Array.replicate_succ,Array.replicate_zero,List.push_toArray,List.append_toArray,List.nil_append,List.cons_append,List.setIfInBounds_toArray,List.set_cons_succ,List.set_cons_zero]
 refine wpS_of_wp ?_
 go_wp2
 generalize w.alloc (.cells #[] 57)=W1 at *
 cases c₀
 have hcF:Chg (fun k=>k=p∨k=q) w (((W1.setCell ⟨p,0,none⟩ (.slice none 0 0)).setCell ⟨p,1,none⟩ (.slice none 0 0)).setCell ⟨q,0,none⟩ (.int .i64 131)) :=
  (((hc1.any (S:=fun k=>k=p∨k=q)).setCell (p:=⟨p,0,none⟩) (fun _=> .inl rfl) _).setCell (p:=⟨p,1,none⟩) (fun _=> .inl rfl) _).setCell (p:=⟨q,0,none⟩) (fun _=> .inr rfl) _
 have h3:=block_two_set1 (u:= .slice none 0 0) (block_two_set0 (u:= .slice none 0 0) Hp1.out)
 have k3:=(((Chg.refl (At1 p) W1).setCell (p:=⟨p,0,none⟩) (fun _=>rfl) (.slice none 0 0)).setCell (p:=⟨p,1,none⟩) (fun _=>rfl) (.slice none 0 0)).at Hq1.out hn3
 have h5:=((Chg.refl (At1 q) ((W1.setCell ⟨p,0,none⟩ (.slice none 0 0)).setCell ⟨p,1,none⟩ (.slice none 0 0))).setCell (p:=⟨q,0,none⟩) (fun _=>rfl) (.int .i64 131)).at h3 hpq
 have k5:=block_one_set (u:= .int .i64 131) k3
 exact ⟨rfl,_,rfl,.tuple #[],by simp [results,Tryz.results29],rfl,rfl,hcF,h5,k5⟩
end Go.Proofs.YtkgfdgfhpdhhaaaGreat
