/- Parts of the walks and of the plain theory, the first: The pairs of two rows of sets, ranged over; rows of sets behind rows of sets. Conditions: as each theorem states. -/
import Derived.Test.YtkgfdgfhpdhhaaaGreatT16
import Derived.Test.YtkgfdgfhpdhhaaaGreatT15
import Derived.Test.YtkgfdgfhpdhhaaaGreatT19
namespace Go.Proofs.YtkgfdgfhpdhhaaaGreat
open Go.ChangeShapes Go.WideShapes Go.RowKit Go.Shelf
attribute [local go_sem] Oper.semAt_some
set_option maxRecDepth 100000
set_option maxHeartbeats 4000000
def sS0:StS:=([],none,0)
def encS (xs ys:List StS) (p:Nat):Array Value:=#[cellS (xs.getD (p / ys.length) sS0),cellS (ys.getD (p % ys.length) sS0)]
def SCl (W:World) (ao:Option Addr) (xs:List StS):Prop:=∀ j x,xs[j]? = some x→∃ b o,ao=some ⟨b,o,none⟩∧W.cell? ⟨b,o+j,none⟩=some (.slice x.2.1 x.1.length x.2.2)
theorem SIn.cl {W:World} {ao:Option Addr} {xs:List StS} (h:SIn W ao xs):SCl W ao xs:=fun j x hj=>by
 obtain ⟨b,o,e,c0,_⟩:=h j x hj
 exact ⟨b,o,e,c0⟩
theorem SCl.old {w W:World} {V0:Nat→Prop} {ao:Option Addr} {xs:List StS} (h:SCl w ao xs) (ho:OldB w V0 W) (hn:xs≠[]→∀ a,ao=some a→¬ V0 a.block):SCl W ao xs:=fun j x hj=>by
 obtain ⟨b,o,rfl,c0⟩:=h j x hj
 have:=hn (fun e=>by rw [e] at hj;simp at hj) _ rfl
 exact ⟨b,o,rfl,ho.cell c0 this⟩
theorem pairsS_any (v1 v2:Value) (h1:∃ a n c,v1 = .slice a n c) (h2:∃ a n c,v2 = .slice a n c) (w:World):Calls Tryz.prog 60 #[v1,v2] w fun e w'=>e = .returned (.func (.func 110) #[] #[.pointer (some ⟨w.heap.size,0,none⟩),.pointer (some ⟨w.heap.size+1,0,none⟩)])∧w'=(w.alloc (.cells #[v1] 35)).alloc (.cells #[v2] 35):=by
 have hmf:∀ (fn:Fn) (first cap:Array Value) (w:World),(Instr.makeFunc fn first cap).run Tryz.prog w = .ok (.func fn first cap) w:=fun _ _ _ _=>rfl
 obtain ⟨a1,n1,c1,rfl⟩:=h1
 obtain ⟨a2,n2,c2,rfl⟩:=h2
 go_enter Tryz.func60,Tryz.ntmps60
 go_wp2
 go_ret
 exact ⟨rfl,rfl⟩
theorem pairsS_iter (n:Nat) (hn:1≤n) (V0:Nat→Prop) (bx bz:Nat) {ax ay:Option Addr} {cx cy:Nat} {xs ys:List StS} (w:World) (hbx:w.heap[bx]? = some (.cells #[.slice ax xs.length cx] 35 (0,0))) (hby:w.heap[bz]? = some (.cells #[.slice ay ys.length cy] 35 (0,0)))
 (hlx:xs.length≤1000000) (hly:ys.length≤1000000) (hx:SCl w ax xs) (hy:SCl w ay ys) (hvx:xs≠[]→∀ a,ax=some a→¬ V0 a.block) (hvy:ys≠[]→∀ a,ay=some a→¬ V0 a.block) (hvbx:¬ V0 bx) (hvby:¬ V0 bz) :
 IterD n 110 #[.pointer (some ⟨bx,0,none⟩),.pointer (some ⟨bz,0,none⟩)] (encS xs ys) V0 (List.range (xs.length * ys.length)) w:=by
 intro l J Jp W hcW hlo hlW hJlt hJ hY h0
 have c0:=cell_row hbx 0 (v:= .slice ax xs.length cx) rfl
 have d0:=cell_row hby 0 (v:= .slice ay ys.length cy) rfl
 have HC:=Lib.hid (show ∀ A,OldB w V0 A→A.cell? ⟨bx,0,none⟩=some (.slice ax xs.length cx)∧A.cell? ⟨bz,0,none⟩=some (.slice ay ys.length cy)∧SCl A ax xs∧SCl A ay ys from fun A h=>⟨h.cell c0 hvbx,h.cell d0 hvby,hx.old h hvx,hy.old h hvy⟩)
 have HO:Hid (OldB w V0 W):=Lib.hid ((KeepS.of_chg hcW).mono (fun _ e=>e.elim))
 have HY:=Lib.hid hY
 have HJ:=Lib.hid hJ
 have HJl:=Lib.hid hJlt
 have Hlo:=Lib.hid hlo
 have Hsz:=Lib.hid hcW.size
 have HD0:Hid (OldD w V0 V0):=Lib.hid (fun _ _ h=>h)
 have h0':=Lib.hid h0
 obtain ⟨c0,-⟩:=HC.out W HO.out
 clear hY hJ hJlt hx hy hbx hby d0 h0 hvx hvy hvbx hvby hlo
 refine callsIn_of_wp Tryz.func110 rfl trivial ?_ rfl
 simp only [Tryz.ntmps110,List.size_toArray,List.length_cons,List.length_nil,Nat.reduceAdd,Nat.reduceSub,Array.replicate_succ,Array.replicate_zero,List.push_toArray,List.append_toArray,List.nil_append,List.cons_append]
 gi_wp2
 clear c0
 gi_loopw [10] (fun iv wr=>∃ (i:Nat) (D:Nat→Prop),iv = .int .i64 (i:Int)∧i≤xs.length∧Hid (J (List.range (i * ys.length)) D wr)∧Hid (OldB w V0 wr)∧Hid (OldD w V0 D)∧Hid (W.heap.size≤wr.heap.size)) (fun iv _=>xs.length - (intOf iv).toNat)
 case atStart=>exact ⟨0,V0,rfl,Nat.zero_le _,(by show J (List.range (0 * ys.length)) V0 W;rw [Nat.zero_mul];exact h0'.out),HO,HD0,(show W.heap.size≤W.heap.size from Nat.le_refl _)⟩
 case round =>
  obtain ⟨i,D,rfl,hi,Hj,Ho,HD,Hw⟩:=hrel
  by_cases hlt:i < xs.length
  ·obtain ⟨x,hxi⟩:∃ x,xs[i]? = some x:=⟨_,List.getElem?_eq_getElem hlt⟩
   obtain ⟨-,hdb,hX,-⟩:=HC.out wr Ho.out
   obtain ⟨b,o,rfl,x0⟩:=hX i x hxi
   have Hxd:Hid (xs.getD i sS0=x):=(show xs.getD i sS0=x by rw [List.getD_eq_getElem?_getD,hxi];rfl)
   have hii:(i:Int) < (xs.length:Int):=by omega
   have hi0:(0:Int)≤(i:Int):=by omega
   clear hX hxi
   gi_wp2
   clear hdb x0
   gi_loopw [16] (fun jv W2=>∃ (j:Nat) (D2:Nat→Prop),jv = .int .i64 (j:Int)∧j≤ys.length∧Hid (J (List.range (i * ys.length+j)) D2 W2)∧Hid (OldB w V0 W2)∧Hid (OldD w V0 D2)∧Hid (W.heap.size≤W2.heap.size)) (fun jv _=>ys.length - (intOf jv).toNat)
   case atStart=>exact ⟨0,D,rfl,Nat.zero_le _,Hj,Ho,HD,Hw⟩
   case round =>
    obtain ⟨j,D2,rfl,hj,Hj2,Ho2,HD2,Hw2⟩:=hrel
    by_cases hjt:j < ys.length
    ·obtain ⟨y,hyj⟩:∃ y,ys[j]? = some y:=⟨_,List.getElem?_eq_getElem hjt⟩
     obtain ⟨-,-,-,hY2⟩:=HC.out wr Ho2.out
     obtain ⟨b',o',rfl,y0⟩:=hY2 j y hyj
     have hjj:(j:Int) < (ys.length:Int):=by omega
     have hj0:(0:Int)≤(j:Int):=by omega
     have hyd:ys.getD j sS0=y:=by rw [List.getD_eq_getElem?_getD,hyj];rfl
     have hy:=HY.out (List.range (i * ys.length+j)) (i * ys.length+j) D2 wr Hj2.out (by rw [← List.range_succ];exact range_prefix (mul_lt_pre hlt hjt))
     have henc:encS xs ys (i * ys.length+j)=#[.slice x.2.1 x.1.length x.2.2,.slice y.2.1 y.1.length y.2.2]:=by
      unfold encS
      rw [show (i * ys.length+j) / ys.length=i by rw [Nat.mul_comm,Nat.mul_add_div (by omega),Nat.div_eq_of_lt hjt,Nat.add_zero],show (i * ys.length+j) % ys.length=j by rw [Nat.mul_comm,Nat.mul_add_mod,Nat.mod_eq_of_lt hjt],Hxd.out,hyd]
      rfl
     rw [henc] at hy
     obtain ⟨fn,tmps,assign,body,hyr,hR3⟩:=hy
     have hsz2:w.heap.size≤wr.heap.size:=Ho2.out.size
     clear hY2 hyj hyd henc
     gi_wp2
     refine hR3.mono ?_
     clear hR3 hyr y0
     rintro e W3 (⟨rfl,hk3,D3,hj3,hg3⟩ | ⟨ch,rfl,hp⟩)
     ·have Hj3:Hid (J (List.range (i * ys.length+(j+1))) D3 W3):=(show J (List.range (i * ys.length+(j+1))) D3 W3 by rw [← Nat.add_assoc,List.range_succ];exact hj3)
      have Ho3:Hid (OldB w V0 W3):=Lib.hid (Ho2.out.round Hlo.out HD2.out hk3)
      have HD3:Hid (OldD w V0 D3):=Lib.hid (HD2.out.grow hg3 hsz2)
      have Hw3:Hid (W.heap.size≤W3.heap.size):=Lib.hid (Nat.le_trans Hw2.out hk3.size)
      clear hk3 hj3 hg3
      gi_wp2
      go_roundw
      case rel=>exact ⟨j+1,D3,by go_num,hjt,Hj3,Ho3,HD3,Hw3⟩
      case measure=>simp [intOf];omega
     ·gi_wp2
      exact ⟨rfl,.inr ⟨ch,rfl,hp⟩⟩
    ·obtain rfl:j=ys.length:=by omega
     have Hj3:Hid (J (List.range ((i+1) * ys.length)) D2 wr):=(show J (List.range ((i+1) * ys.length)) D2 wr by rw [Nat.succ_mul];exact Hj2.out)
     clear Hj2
     gi_wp2
     go_roundw
     case rel=>exact ⟨i+1,D2,by go_num,hlt,Hj3,Ho2,HD2,Hw2⟩
     case measure=>simp [intOf];omega
  ·obtain rfl:i=xs.length:=by omega
   gi_wp2
   go_end0
   exact .inl ⟨_,rfl,D,Hj.out⟩
end Go.Proofs.YtkgfdgfhpdhhaaaGreat
namespace Go.Proofs.YtkgfdgfhpdhhaaaGreat
open Go.ChangeShapes Go.WideShapes Go.RowKit
attribute [local go_sem] Oper.semAt_some
set_option maxRecDepth 100000
set_option maxHeartbeats 8000000
theorem MkIs.len {D:Nat→Prop} {W:World} {mb:Nat} {nv:Value} {s:MkS} {mv:Int} (h:MkIs W D mb nv s mv):∃ ao c,W.cell? ⟨mb,1,none⟩=some (.slice ao s.sts.length c):=by
 obtain ⟨h1,h2,h3,sv,pb,lo,xs,dm,hb,dmb,dpb,hm,hnum,hrow,hfst,hown,hx⟩:=h
 obtain ⟨ao,c,rfl⟩:=ownsRow_shape hrow
 exact ⟨ao,c,cell_row hb 1 rfl⟩
theorem MkIs.mv {D:Nat→Prop} {W:World} {mb:Nat} {nv:Value} {s:MkS} {mv:Int} (h:MkIs W D mb nv s mv):W.cell? ⟨mb,3,none⟩=some (.int .i64 mv)∧W.frozen? ⟨mb,3,none⟩=false∧W.cell? ⟨mb,0,none⟩=some nv∧D mb:=by
 obtain ⟨h1,h2,h3,sv,pb,lo,xs,dm,hb,dmb,dpb,hm,hnum,hrow,hfst,hown,hx⟩:=h
 exact ⟨cell_row hb 3 rfl,by simp [World.frozen?,hb],cell_row hb 0 rfl,dmb⟩
def Kids2 (b o:Nat) (ta tb:T) (ka0:Option Addr) (kc0:Nat) (ka1:Option Addr) (kc1:Nat) (V:World):Prop :=
 (V.cell? ⟨b,o,none⟩=some (.int .i64 ta.kind)∧V.cell? ⟨b,o+1,none⟩=some (.string ⟨ta.name.toArray⟩)∧V.cell? ⟨b,o+2,none⟩=some (.slice ka0 ta.kids.length kc0))∧V.cell? ⟨b,o+3,none⟩=some (.int .i64 tb.kind)∧V.cell? ⟨b,o+3+1,none⟩=some (.string ⟨tb.name.toArray⟩)∧V.cell? ⟨b,o+3+2,none⟩=some (.slice ka1 tb.kids.length kc1)
theorem Chg.of_mk {D:Nat→Prop} {X W V:World} (h:Chg Nob X W) (k:Chg D W V):Chg D X V:=(h.any (S:=D)).trans1 k
theorem stateI_none {key:List UInt8} {fin:Bool} {raw:MkS→Option (List Mvi × MkS)} {s:MkS} (h:s.num.lookup key=none) (hr:raw s=none):stateI key fin raw s=none:=by
 unfold stateI
 rw [h]
 show (raw s).bind _=none
 rw [hr]
 rfl
theorem stateI_many {key:List UInt8} {fin:Bool} {raw:MkS→Option (List Mvi × MkS)} {s s':MkS} {ms:List Mvi} (h:s.num.lookup key=none) (hr:raw s=some (ms,s')) (hb:131072 < sumN s'.sts+ms.length∨4096≤s'.sts.length):stateI key fin raw s=none:=by
 unfold stateI
 rw [h]
 show (raw s).bind _=none
 rw [hr]
 show (if _ then _ else _)=none
 rw [if_pos hb]
theorem stateI_some {key:List UInt8} {fin:Bool} {raw:MkS→Option (List Mvi × MkS)} {s s':MkS} {ms:List Mvi} (h:s.num.lookup key=none) (hr:raw s=some (ms,s')) (hb:¬ (131072 < sumN s'.sts+ms.length∨4096≤s'.sts.length)):stateI key fin raw s=some (s'.sts.length,⟨s'.sts++[⟨fin,ms⟩],(key,s'.sts.length)::s'.num⟩):=by
 unfold stateI
 rw [h]
 show (raw s).bind _=_
 rw [hr]
 show (if _ then _ else _)=_
 rw [if_neg hb]
theorem own_min {w U1 U2:World} {n:Nat} (h1:U1=w.alloc (.cells #[.int .i64 (n:Int)] 3)) (h2:U2=U1.alloc (.cells #[.int .u64 0,.int .u64 0,.slice (some ⟨w.heap.size,0,none⟩) 1 1] 75)) :
 Chg Nob w U2∧MIn U2 (some ⟨w.heap.size+1,0,none⟩) [((⟨0,0,[(n:Int)]⟩:Mvi),some ⟨w.heap.size,0,none⟩,1)]:=by
 have a1:Chg Nob w U1:=by rw [h1];exact (Chg.refl _ _).alloc _
 have a2:Chg Nob U1 U2:=by rw [h2];exact (Chg.refl _ _).alloc _
 have b1:U1.heap[w.heap.size]? = some (.cells #[.int .i64 (n:Int)] 3 (0,0)):=by rw [h1];exact heap_alloc_new _ _
 have s1:U1.heap.size=w.heap.size+1:=by rw [h1];exact World.size_alloc _ _
 have b2:U2.heap[w.heap.size+1]? = some (.cells #[.int .u64 0,.int .u64 0,.slice (some ⟨w.heap.size,0,none⟩) 1 1] 75 (0,0)):=by rw [h2,← s1];exact heap_alloc_new _ _
 have b3:=a2.at b1 (fun e=>e)
 refine ⟨a1.trans1 a2,fun j x hj=>?_⟩
 have hj0:j=0:=by have:=(List.getElem?_eq_some_iff.1 hj).1;simp at this;omega
 subst hj0
 cases hj
 refine ⟨_,0,rfl,cell_row b2 0 rfl,cell_row b2 1 rfl,cell_row b2 2 rfl,by simp,⟨fun i y hi=>?_,fun _=>⟨_,_,_,rfl,Nat.zero_le _,b3⟩⟩,fun e=>by cases e⟩
 have hi0:i=0:=by have:=(List.getElem?_eq_some_iff.1 hi).1;simp at this;omega
 subst hi0
 cases hi
 exact ⟨_,rfl,by rw [Go.WideShapes.add_plain];exact cell_row b3 0 rfl⟩
theorem MIn.typed {S:Nat→Prop} {W W':World} {ao:Option Addr} {xs:List MvS} (h:MIn W ao xs) (hc:Chg S W W') (hn:∀ a,ao=some a→¬ S a.block) (hs:∀ q,S q→∀ cs m,W.heap[q]?≠some (.cells cs 3 m)):MIn W' ao xs:=fun j x hj=>by
 obtain ⟨b,o,e,c0,c1,c2,hl,ht,hx⟩:=h j x hj
 have:=hn _ e
 exact ⟨b,o,e,hc.cell' c0 this,hc.cell' c1 this,hc.cell' c2 this,hl,ht.typed hc hs,hx⟩
theorem sumN_app (S:List Sti) (x:Sti):sumN (S++[x])=sumN S+x.moves.length:=by unfold sumN;simp
theorem MkOk.sum {s:MkS} (h:MkOk s):sumN s.sts≤4096 * s.sts.length:=by
 have h3:=h.2.2
 generalize s.sts=L at h3
 have hm:∀ x∈L,x.moves.length≤4096:=fun x hx=>by
  obtain ⟨i,hi,rfl⟩:=List.mem_iff_getElem.1 hx
  exact (h3 i _ (List.getElem?_eq_getElem hi)).1
 clear h3 h
 induction L with
 | nil=>exact Nat.zero_le _
 | cons x L ih =>
   have h1:=hm x (List.mem_cons_self ..)
   have h2:=ih (fun y hy=>hm y (List.mem_cons_of_mem _ hy))
   have e:sumN (x::L)=x.moves.length+sumN L:=by unfold sumN;simp
   rw [e,List.length_cons]
   omega
theorem MkOk.push {s:MkS} (h:MkOk s) {fin:Bool} {ms:List Mvi} (key:List UInt8) (hl:s.sts.length < 4096) (hm:ms.length≤4096) (hs:∀ m∈ms,SetN (s.sts.length+1) m.to):MkOk ⟨s.sts++[⟨fin,ms⟩],(key,s.sts.length)::s.num⟩:=by
 refine ⟨fun k n hk=>?_,?_,fun i st hi=>?_⟩
 ·show n < (s.sts++[(⟨fin,ms⟩:Sti)]).length
  rw [List.length_append]
  have hk:List.lookup k ((key,s.sts.length)::s.num)=some n:=hk
  rw [List.lookup_cons] at hk
  split at hk
  ·cases hk;exact Nat.lt_succ_self _
  ·have:=h.1 k n hk;omega
 ·show (s.sts++[(⟨fin,ms⟩:Sti)]).length≤4096
  rw [List.length_append];show s.sts.length+1≤4096;omega
 ·have hi:(s.sts++[(⟨fin,ms⟩:Sti)])[i]? = some st:=hi
  rcases Nat.lt_or_ge i s.sts.length with e | e
  ·rw [List.getElem?_append_left e] at hi;exact h.2.2 i st hi
  ·rw [List.getElem?_append_right e] at hi
   have hi2:=(List.getElem?_eq_some_iff.1 hi).1
   rw [List.length_singleton] at hi2
   have e2:i=s.sts.length:=by omega
   subst e2
   rw [Nat.sub_self] at hi
   cases hi
   exact ⟨hm,hs⟩
theorem own_set (n:Nat):SetN (n+1) [(n:Int)]:=⟨by simp,fun k hk=>by rw [List.mem_singleton] at hk;omega⟩
theorem state_until {R:Nat→Prop} {mb:Nat} {nv:Value} {L:List (List UInt8)} {t ta tb:T} {fa fb:MkS→Option (List Mvi × MkS)} (hk:t.kind=12) (hkids:t.kids=[ta,tb]) (hks:∀ u∈allT t,1≤u.kind∧u.kind≤14) (hsz:(keyT t).length≤1000000000) (ca:WaysC R mb nv L ta fa) (cb:WaysC R mb nv L tb fb) :
 StateC R mb nv L t (stateI (keyT t) true (untilI fa fb)):=by
 intro W D s v hM hok hT hNm hDR hRW
 obtain ⟨ao,cap,rfl,hl,hkk⟩:=hT.parts
 obtain ⟨b0,o0,ka0,kc0,hao,hRb,a0,a1,a2,hkl0,_,hta⟩:=hkk.kid (j:=0) (t:=ta) (by rw [hkids];rfl)
 obtain ⟨b1,o1,ka1,kc1,hao1,_,e0,e1,e2,hkl1,_,htb⟩:=hkk.kid (j:=1) (t:=tb) (by rw [hkids];rfl)
 subst hao
 cases hao1
 rw [hk,hkids] at hT ⊢
 simp only [Nat.zero_mul,Nat.one_mul,Nat.add_zero] at a0 a1 a2 e0 e1 e2
 rw [show ([ta,tb]:List T).length=2 from rfl] at hT ⊢
 obtain ⟨X,hX,hcX,hbX,hsX⟩:=box_cells W #[.int .i64 12,.string ⟨t.name.toArray⟩,.slice (some ⟨b0,o0,none⟩) 2 cap] 24
 obtain ⟨xb,hxb⟩:∃ xb,xb=W.heap.size:=⟨_,rfl⟩
 rw [← hxb] at hbX hsX
 have hkc:=key_any t hks hsz R X _ (hT.nob hcX)
 obtain ⟨key,hkey⟩:∃ key,key=keyT t:=⟨_,rfl⟩
 rw [← hkey] at hkc hsz ⊢
 have HM:=Lib.hid (hM.nob hcX)
 have Hok:=Lib.hid hok
 have HNm:=Lib.hid (hNm.nob hcX)
 have Hta:=Lib.hid (hta.nob hcX)
 have Htb:=Lib.hid (htb.nob hcX)
 have HDR:=Lib.hid hDR
 have HRX:Hid (∀ q,R q→q < xb):=Lib.hid (fun q hq=>by have:=hRW q hq;omega)
 have HDX:Hid (∀ q,D q→q < xb):=Lib.hid (fun q hq=>by have:=hM.lt q hq;omega)
 have Hsz:=Lib.hid hsz
 have Hcx:=Lib.hid hcX
 have HbX:=Lib.hid hbX
 have Hxs:Hid (X.heap.size=xb+1):=Lib.hid hsX
 have Hxb:=Lib.hid hxb
 have HRb:=Lib.hid hRb
 have Hkey:=Lib.hid hkey
 have HKid:Hid (∀ (S:Nat→Prop) (V:World),Chg S X V→(∀ q,S q→¬ R q)→Kids2 b0 o0 ta tb ka0 kc0 ka1 kc1 V):=(show ∀ (S:Nat→Prop) (V:World),Chg S X V→(∀ q,S q→¬ R q)→Kids2 b0 o0 ta tb ka0 kc0 ka1 kc1 V from fun S V hV hS=>by
  have hn:¬ S b0:=fun e=>hS b0 e hRb
  have f:∀ {p u},W.cell? ⟨b0,p,none⟩=some u→V.cell? ⟨b0,p,none⟩=some u:=fun h=>hV.cell' (hcX.cell' h (fun e=>e)) hn
  exact ⟨⟨f a0,f a1,f a2⟩,f e0,f e1,f e2⟩)
 obtain ⟨x0,x1,x2,_⟩:=cells_three hbX
 rw [hX] at x0 x1 x2
 clear hNm hM hok hta htb hDR hRW hT hkk hl hkids hks hsz hkl0 hkl1 a0 a1 a2 e0 e1 e2 hbX hsX hcX hRb hkey hxb
 go_enter Tryz.func62,Tryz.ntmps62
 go_wp2_with fail
 rw [← hX,← Hxb.out]
 rw [← hX] at x0 x1 x2
 clear hX
 (with_reducible refine hkc.mono ?_)
 clear hkc
 rintro e w1 ⟨rfl,hc1⟩
 have H1:=Lib.hid hc1
 have HM1:=Lib.hid (HM.out.nob hc1)
 obtain ⟨pb,hpb,cn,hlook,hcn⟩:=HM1.out.look key Hsz.out
 clear hc1 x0 x1 x2
 cases hlk:s.num.lookup key with
 | some n =>
   have Hn:Hid (cn=(n:Int)):=Lib.hid (hcn n hlk)
   rw [hlk] at hlook
   have Hlk:=Lib.hid hlk
   clear hcn hlk
   go_wp2_with fail
   go_ret
   exact ⟨(Hcx.out.trans1 H1.out).any,.inr ⟨n,s,_,D,by unfold stateI;rw [Hlk.out],rfl,HM1.out,fun k hk=> .inl hk,Hok.out,Nat.le_refl _,by rw [Hn.out];exact ⟨rfl,Hok.out.1 _ _ Hlk.out⟩⟩⟩
 | none =>
   rw [hlk] at hlook
   have Hlk:=Lib.hid hlk
   clear hcn hlk
   obtain ⟨x0,x1,x2,_⟩:=cells_three (H1.out.at HbX.out (fun e=>e))
   obtain ⟨Y,hY,hcY,hbY,hsY⟩:=box_cells w1 #[.bool false,.slice none 0 0] 69
   obtain ⟨sb,hsb⟩:∃ sb,sb=w1.heap.size:=⟨_,rfl⟩
   rw [← hsb] at hbY hsY
   have HcXY:Hid (Chg Nob X Y):=Lib.hid (H1.out.trans1 hcY)
   have HbY:=Lib.hid hbY
   have HsY:=Lib.hid hsY
   have hkY:=HKid.out Nob Y HcXY.out (fun _ e=>e.elim)
   have HMY:=Lib.hid (HM1.out.nob hcY)
   have hpa:=ca Y D s _ HMY.out Hok.out (Hta.out.nob HcXY.out) (HNm.out.nob HcXY.out) HDR.out (fun q hq=>by have:=HRX.out q hq;have:=HcXY.out.size;have:=Hxs.out;omega)
   have Hxsb:Hid (xb < sb):=(show xb < sb by have:=H1.out.size;have:=Hxs.out;omega)
   obtain ⟨k0,k1⟩:=hkY
   obtain ⟨k00,k01,k02⟩:=k0
   have HbXY:Hid (Y.heap[xb]? = some (.cells #[.int .i64 12,.string ⟨t.name.toArray⟩,.slice (some ⟨b0,o0,none⟩) 2 cap] 24 (0,0))):=Lib.hid (HcXY.out.at HbX.out (fun e=>e))
   obtain ⟨z0,_,z2,_⟩:=cells_three HbXY.out
   clear hcY hbY hsY k1
   go_upto_region 6 with fail
   rw [← hY,← hsb]
   clear hY hlook hpb x0 x1 x2
   have Hsb:=Lib.hid hsb
   clear hsb
   go_wp2_with fail
   (with_reducible refine hpa.mono ?_)
   clear hpa k00 k01 k02 z0 z2
   rintro e w2 ⟨hc2,⟨hf,rfl⟩ | ⟨ma,s1,va,D2,hf,rfl,hM2,hg2,hok2,hle2,⟨xa,hva⟩,hna,hla,hsa⟩⟩
   ·have Hf:=Lib.hid hf
    have Hc2:=Lib.hid hc2
    clear hc2 hf
    go_wp2_with fail
    exact ⟨rfl,(Hcx.out.trans1 HcXY.out).of_mk Hc2.out,.inl ⟨stateI_none Hlk.out (by unfold untilI;rw [Hf.out];rfl),rfl⟩⟩
   ·have HcX2:Hid (Chg D X w2):=Lib.hid (HcXY.out.of_mk hc2)
    have HDR2:Hid (∀ q,D2 q→¬ R q):=Lib.hid (fun q hq hr=>(hg2 q hq).elim (fun e=>HDR.out q e hr) (fun e=>by have:=HRX.out q hr;have:=HsY.out;have:=Hxsb.out;omega))
    have hcc:=cb w2 D2 s1 _ hM2 hok2 (Htb.out.chg HcX2.out (fun b hb hd=>HDR.out b hd hb)) (HNm.out.chg HcX2.out HDR.out) HDR2.out (fun q hq=>by have:=HRX.out q hq;have:=HcX2.out.size;have:=Hxs.out;omega)
    obtain ⟨-,k30,k31,k32⟩:=HKid.out D w2 HcX2.out HDR.out
    have HbX2:Hid (w2.heap[xb]? = some (.cells #[.int .i64 12,.string ⟨t.name.toArray⟩,.slice (some ⟨b0,o0,none⟩) 2 cap] 24 (0,0))):=Lib.hid (hc2.at HbXY.out (fun e=>by have:=HDX.out _ e;omega))
    have HbS2:Hid (w2.heap[sb]? = some (.cells #[.bool false,.slice none 0 0] 69 (0,0))):=Lib.hid (hc2.at HbY.out (fun e=>by have:=HDX.out _ e;have:=Hxsb.out;omega))
    obtain ⟨z0,_,z2,_⟩:=cells_three HbX2.out
    have Hc2:=Lib.hid hc2
    have HM2:=Lib.hid hM2
    have Hg2:=Lib.hid hg2
    have Hle2:=Lib.hid hle2
    have Hva:=Lib.hid hva
    have Hna:=Lib.hid hna
    have Hla:=Lib.hid hla
    have Hsa:=Lib.hid hsa
    have Hfa:=Lib.hid hf
    clear hc2 hM2 hg2 hle2 hva hna hla hsa hf hok2 ca
    go_wp2_with fail
    (with_reducible refine hcc.mono ?_)
    clear hcc k30 k31 k32 z0 z2
    rintro e w3 ⟨hc3,⟨hf,rfl⟩ | ⟨my,s2,vy,D3,hf,rfl,hM3,hg3,hok3,hle3,⟨ya,hvy⟩,hny,hly,hsy⟩⟩
    ·have Hf:=Lib.hid hf
     have Hc3:=Lib.hid hc3
     clear hc3 hf
     go_wp2_with fail
     exact ⟨rfl,((Hcx.out.trans1 HcXY.out).of_mk Hc2.out).trans Hc3.out (fun i hi e=>(Hg2.out i e).elim id (fun e=>by have:=(Hcx.out.trans1 HcXY.out).size;omega)),.inl ⟨stateI_none Hlk.out (by unfold untilI;rw [Hfa.out];show Option.bind (fb s1) _=none;rw [Hf.out];rfl),rfl⟩⟩
    ·have HW3:Hid (Chg D W w3):=Lib.hid (((Hcx.out.trans1 HcXY.out).of_mk Hc2.out).trans hc3 (fun i hi e=>(Hg2.out i e).elim id (fun e=>by have:=(Hcx.out.trans1 HcXY.out).size;omega)))
     have Hn2x:Hid (¬ D2 xb∧¬ D2 sb):=(show _∧_ from ⟨fun e=>(Hg2.out _ e).elim (fun e=>by have:=HDX.out _ e;omega) (fun e=>by have:=HsY.out;have:=Hxsb.out;omega),fun e=>(Hg2.out _ e).elim (fun e=>by have:=HDX.out _ e;have:=Hxsb.out;omega) (fun e=>by have:=HsY.out;omega)⟩)
     have HbX3:Hid (w3.heap[xb]? = some (.cells #[.int .i64 12,.string ⟨t.name.toArray⟩,.slice (some ⟨b0,o0,none⟩) 2 cap] 24 (0,0))):=Lib.hid (hc3.at HbX2.out Hn2x.out.1)
     have HbS3:Hid (w3.heap[sb]? = some (.cells #[.bool false,.slice none 0 0] 69 (0,0))):=Lib.hid (hc3.at HbS2.out Hn2x.out.2)
     have Hva3:Hid (MOwn w3 Y.heap.size va ma xa):=Lib.hid (Hva.out.typed hc3 (fun q hq=>Hna.out q hq) HM2.out.ty)
     have Hg3:Hid (∀ q,D3 q→D q∨sb < q):=Lib.hid (fun q hq=>(hg3 q hq).elim (fun e=>(Hg2.out q e).imp id (fun e=>by have:=HsY.out;omega)) (fun e=> .inr (by have:=Hc2.out.size;have:=HsY.out;omega)))
     have Hn3x:Hid (¬ D3 xb∧¬ D3 sb):=(show _∧_ from ⟨fun e=>(Hg3.out _ e).elim (fun e=>by have:=HDX.out _ e;omega) (fun e=>by have:=Hxsb.out;omega),fun e=>(Hg3.out _ e).elim (fun e=>by have:=HDX.out _ e;have:=Hxsb.out;omega) (fun e=>by omega)⟩)
     have Hnva:Hid (∀ q,va.ownBlock=some q→¬ D3 q):=(show ∀ q,va.ownBlock=some q→¬ D3 q from fun q hq e=>by
      rcases hg3 q e with e | e
      ·exact Hna.out q hq e
      ·have:=(Hva.out.own.lt q hq).2;omega)
     have Hs3:Hid (Y.heap.size≤w2.heap.size∧w2.heap.size≤w3.heap.size):=(show _∧_ from ⟨Hc2.out.size,hc3.size⟩)
     have Hf2:Hid (fb s1=some (my,s2)):=Lib.hid hf
     obtain ⟨ao3,c3,hlen⟩:=hM3.len
     have HM3:=Lib.hid hM3
     have Hok3:=Lib.hid hok3
     have Hle3:=Lib.hid hle3
     have Hvy:=Lib.hid hvy
     have Hny:=Lib.hid hny
     have Hly:=Lib.hid hly
     have Hsy:=Lib.hid hsy
     have HSA:Hid (∀ m∈ma,SetN s2.sts.length m.to):=Lib.hid (fun m hm=>(Hsa.out m hm).mono hle3)
     have Hle:Hid (s.sts.length≤s2.sts.length):=(show _≤_ from Nat.le_trans Hle2.out hle3)
     obtain ⟨n,hn⟩:∃ n,n=s2.sts.length:=⟨_,rfl⟩
     rw [← hn] at hlen
     have Hn:=Lib.hid hn
     have hn5:n≤4096:=by rw [hn];exact hok3.2.1
     clear hc3 hM3 hok3 hle3 hvy hny hly hsy hf hg3 hn cb
     clear Hc2 HM2 Hg2 Hle2 Hva Hna Hsa HbX2 HbS2 HDR2 Hn2x HcX2 HKid Hta Htb HRb HbXY HbY HM1 HM
     obtain ⟨aa,ca,rfl,hmina,-⟩:=Hva3.out.min2
     obtain ⟨ay,cy,rfl,-,-⟩:=Hvy.out.min2
     obtain ⟨U1,hU1,hcU1,hbU1,hsU1⟩:=box_cells w3 #[.int .i64 (n:Int)] 3
     obtain ⟨U2,hU2,hcU2,hbU2,hsU2⟩:=box_cells U1 #[.int .u64 0,.int .u64 0,.slice (some ⟨w3.heap.size,0,none⟩) 1 1] 75
     have hown2:=own_min hU1 hU2
     have hcO:=hown2.1
     have hmino:=hown2.2
     obtain ⟨U3,hU3⟩:∃ U3,U3=U2.setCell ⟨sb,0,none⟩ (.bool true):=⟨_,rfl⟩
     have hcU3:Chg (At1 sb) U2 U3:=by rw [hU3];exact (Chg.refl (At1 sb) U2).setCell (p:=⟨sb,0,none⟩) (fun _=>rfl) _
     have hbS:=hcO.at HbS3.out (fun e=>e)
     have hbX:=hcO.at HbX3.out (fun e=>e)
     have HbS4:Hid (U3.heap[sb]? = some (.cells #[.bool true,.slice none 0 0] 69 (0,0))):=Lib.hid (by rw [hU3];exact block_two_set0 hbS)
     have hne:∀ q,At1 sb q→∀ cs t m,U2.heap[q]? = some (.cells cs t m)→t=69:=fun q e cs t m h=>by
      have e:q=sb:=e
      subst e
      rw [hbS] at h
      simp at h
      exact h.2.1.symm
     have hc33:Chg (At1 sb) w3 U3:=(hcO.any (S:=At1 sb)).trans1 hcU3
     have hne3:∀ q,At1 sb q→∀ cs t m,w3.heap[q]? = some (.cells cs t m)→t=69:=fun q e cs t m h=>hne q e cs t m (hcO.at h (fun e=>e))
     have h375:∀ {lo sl ms xs},MOwn w3 lo sl ms xs→∀ q,sl.ownBlock=some q→¬ At1 sb q:=fun h q hq e=>by
      obtain ⟨cs,m,hb⟩:=ownsRow_block h.own q hq
      exact absurd (hne3 q e cs 75 m hb) (by decide)
     have h33:∀ q,At1 sb q→∀ cs m,w3.heap[q]?≠some (.cells cs 3 m):=fun q e cs m h=>absurd (hne3 q e cs 3 m h) (by decide)
     have HM4:Hid (MkIs U3 D3 mb nv s2 (sumN s2.sts)):=Lib.hid (HM3.out.keep hc33 (fun q e hq=>by have e:q=sb:=e;subst e;exact Hn3x.out.2 hq) h33)
     have Hvy4:Hid (MOwn U3 w2.heap.size (.slice ay my.length cy) my ya):=Lib.hid (Hvy.out.typed hc33 (h375 Hvy.out) h33)
     have hva4:MOwn U3 Y.heap.size (.slice aa ma.length ca) ma xa:=Hva3.out.typed hc33 (h375 Hva3.out) h33
     have hmin4:MIn U3 (some ⟨w3.heap.size+1,0,none⟩) [((⟨0,0,[(n:Int)]⟩:Mvi),some ⟨w3.heap.size,0,none⟩,1)]:=hmino.typed hcU3 (fun a ha e=>by
      cases ha
      have e:w3.heap.size+1=sb:=e
      have:=(Array.getElem?_eq_some_iff.1 HbS3.out).1
      omega) (fun q e cs m h=>absurd (hne q e cs 3 m h) (by decide))
     obtain ⟨aa',ca',ea,hmina4⟩:=hva4.min
     cases ea
     have hboth:Calls Tryz.prog 117 #[.pointer (some ⟨mb,0,none⟩),.slice aa ma.length ca,.slice (some ⟨w3.heap.size+1,0,none⟩) 1 1] U3 (BothPost ma [⟨0,0,[(n:Int)]⟩] U3) :=
      mboth_any (b:=[⟨0,0,[(n:Int)]⟩]) (ys:=[((⟨0,0,[(n:Int)]⟩:Mvi),some ⟨w3.heap.size,0,none⟩,1)]) Hva3.out.fst rfl (by have:=Hla.out;omega) (by simp) (fun x hx y hy=>by
       rw [List.mem_singleton] at hy
       subst hy
       have:=(HSA.out x.1 (by rw [← Hva3.out.fst];exact List.mem_map_of_mem hx)).len
       have:=Hn.out
       show x.1.to.length+1≤10000
       omega) hmina4 hmin4
     have HW4:Hid (Chg D W U3):=Lib.hid (HW3.out.trans hc33 (fun i hi e=>by have e:i=sb:=e;have:=Hxsb.out;have:=Hxb.out;omega))
     have Hs4:Hid (w3.heap.size+2≤U3.heap.size):=(show _≤_ by have:=hcU3.size;omega)
     obtain ⟨z0,_⟩:=cells_three hbX
     obtain ⟨s0,s1',sf0,sf1⟩:=cell_two hbS
     clear hbS hbX hne hc33 hne3 h375 h33 hva4 hmin4 hmina4 hmina hown2 hcO hmino hcU1 hcU2 hcU3 hbU1 hbU2 HbS3 HbX3 Hva3 Hvy
     go_upto_region 10 with fail
     go_upto_region 11 with fail
     rw [← hU1,← hU2]
     clear hU1 hU2
     go_upto_region 13 with fail
     rw [← hU3]
     clear hU3 z0 s0 s1' sf0 sf1 hlen
     try rw [hsU1]
     clear hsU1
     generalize hgo:w3.heap.size+1=go at *
     clear hgo
     go_wp2_with fail
     (with_reducible refine hboth.mono ?_)
     clear hboth
     rintro e w4 ⟨hc4,⟨hbig,rfl⟩ | ⟨hle4,vp,xp,rfl,hown⟩⟩
     ·have Hc4:=Lib.hid hc4
      have Hbig:=Lib.hid hbig
      clear hc4 hbig
      go_wp2_with fail
      refine ⟨rfl,HW4.out.trans Hc4.out (fun _ _ e=>e.elim),.inl ⟨stateI_none Hlk.out ?_,rfl⟩⟩
      unfold untilI bothO
      rw [Hfa.out]
      show Option.bind (fb s1) _=none
      rw [Hf2.out]
      show Option.bind (if 4096 < (pairsI ma [⟨0,0,[(s2.sts.length:Int)]⟩]).length then none else _) _=none
      rw [← Hn.out,if_pos Hbig.out]
      rfl
     ·obtain ⟨pp,hpp⟩:∃ pp,pp=leastI (pairsI ma [⟨0,0,[(n:Int)]⟩]) (pairsI ma [⟨0,0,[(n:Int)]⟩]).length:=⟨_,rfl⟩
      rw [← hpp] at hown
      have hpl:pp.length≤4096:=by rw [hpp];exact Nat.le_trans (leastI_len _ _) hle4
      have Hpset:Hid (∀ m∈pp,SetN (n+1) m.to):=(show ∀ m∈pp,SetN (n+1) m.to from fun m hm=>by
       rw [hpp] at hm
       exact pairsI_set (fun m hm=>(HSA.out m hm).mono (by have:=Hn.out;omega)) (fun m hm=>by rw [List.mem_singleton] at hm;subst hm;exact own_set n) m (leastI_mem (Nat.le_refl _) hm))
      have Hpp:=Lib.hid hpp
      have Hb4:Hid (bothO ma [⟨0,0,[(s2.sts.length:Int)]⟩]=some pp):=(show _=_ by unfold bothO;rw [← Hn.out,if_neg (by omega),← Hpp.out])
      have HM5:Hid (MkIs w4 D3 mb nv s2 (sumN s2.sts)):=Lib.hid (HM4.out.nob hc4)
      have hvy5:=Hvy4.out.nob hc4
      have HbS5:=Lib.hid (hc4.at HbS4.out (fun e=>e))
      have HW5:Hid (Chg D W w4):=Lib.hid (HW4.out.trans hc4 (fun _ _ e=>e.elim))
      have hs5:=hc4.size
      obtain ⟨ap,cp,rfl,hminp,hnilp⟩:=hown.min2
      obtain ⟨sl',w5,hrun,hcat,hc5,hob5⟩:=hvy5.concat (by have:=Hs3.out;have:=Hs4.out;omega) hown.fst hminp hnilp (by have:=Hly.out;omega)
      have hn5S:¬ (Value.slice ay my.length cy).ownBlock=some sb:=fun e=>by
       obtain ⟨cs,m,hb⟩:=ownsRow_block hvy5.own sb e
       rw [HbS5.out] at hb
       simp at hb
      have HbS6:=Lib.hid (hc5.at HbS5.out hn5S)
      have HM6:Hid (MkIs w5 D3 mb nv s2 (sumN s2.sts)):=Lib.hid (HM5.out.keep hc5 (fun q e=>Hny.out q e) (fun q e cs m hb=>by
       obtain ⟨cs',m',hb2⟩:=ownsRow_block hvy5.own q e
       rw [hb] at hb2
       simp at hb2))
      have HW6:Hid (Chg D W w5):=Lib.hid (HW5.out.trans hc5 (fun i hi e=>by have h1:=(Hvy4.out.own.lt i e).1;have:=Hs3.out;have:=HsY.out;have:=Hxsb.out;have:=Hxb.out;omega))
      obtain ⟨as',cs',rfl,hmins⟩:=hcat.min
      have hcl:(my++pp).length=my.length+pp.length:=List.length_append
      have hleast:Calls Tryz.prog 116 #[.pointer (some ⟨mb,0,none⟩),.slice as' (my.length+pp.length) cs'] w5 (LeastPost (my++pp) w5):=by
       rw [← hcl]
       exact least_any hcat.fst hmins
      have Hrun:=Lib.hid hrun
      have Hcl:=Lib.hid hcl
      have hml:my.length≤4096:=Hly.out
      clear hc4 hown hpp hle4 hvy5 hminp hnilp hrun hcat hc5 hob5 hn5S hmins hcl hs5
      go_wp2_with (refine wpList_append_known rfl _ _ 67 67 rfl _ _ rfl rfl _ w5 Hrun.out ?_)
      (with_reducible refine hleast.mono ?_)
      clear hleast
      rintro e w6 ⟨hc6,⟨hbig,rfl⟩ | ⟨hle6,vq,xq,rfl,hq⟩⟩
      ·have Hc6:=Lib.hid hc6
       have Hbig:=Lib.hid hbig
       clear hc6 hbig
       go_wp2_with fail
       refine ⟨rfl,HW6.out.trans Hc6.out (fun _ _ e=>e.elim),.inl ⟨stateI_none Hlk.out ?_,rfl⟩⟩
       unfold untilI
       rw [Hfa.out]
       show Option.bind (fb s1) _=none
       rw [Hf2.out]
       show Option.bind (bothO ma [⟨0,0,[(s2.sts.length:Int)]⟩]) _=none
       rw [Hb4.out]
       show Option.map _ (leastO (my++pp))=none
       unfold leastO
       rw [if_pos Hbig.out]
       rfl
      ·obtain ⟨ms,hms⟩:∃ ms,ms=leastI (my++pp) (my++pp).length:=⟨_,rfl⟩
       rw [← hms] at hq
       have hmsl:ms.length≤4096:=by rw [hms];exact Nat.le_trans (leastI_len _ _) hle6
       have HmsS:Hid (∀ m∈ms,SetN (n+1) m.to):=(show ∀ m∈ms,SetN (n+1) m.to from fun m hm=>by
        rw [hms] at hm
        rcases List.mem_append.1 (leastI_mem (Nat.le_refl _) hm) with hm | hm
        ·exact (Hsy.out m hm).mono (by have:=Hn.out;omega)
        ·exact Hpset.out m hm)
       have Hraw:Hid (untilI fa fb s=some (ms,s2)):=(show _=_ by
        unfold untilI
        rw [Hfa.out]
        show Option.bind (fb s1) _=_
        rw [Hf2.out]
        show Option.bind (bothO ma [⟨0,0,[(s2.sts.length:Int)]⟩]) _=_
        rw [Hb4.out]
        show Option.map _ (leastO (my++pp))=_
        unfold leastO
        rw [if_neg (by omega),← hms]
        rfl)
       obtain ⟨aq,cq,rfl,-,-⟩:=hq.min2
       have hb6:=hc6.at HbS6.out (fun e=>e)
       obtain ⟨t0,t1,tf0,tf1⟩:=cell_two hb6
       obtain ⟨w7,hw7⟩:∃ w7,w7=w6.setCell ⟨sb,1,none⟩ (.slice aq ms.length cq):=⟨_,rfl⟩
       have hc7:Chg (At1 sb) w6 w7:=by rw [hw7];exact (Chg.refl (At1 sb) w6).setCell (p:=⟨sb,1,none⟩) (fun _=>rfl) _
       have hne7:∀ q,At1 sb q→∀ cs t m,w6.heap[q]? = some (.cells cs t m)→t=69:=fun q e cs t m h=>by
        have e:q=sb:=e
        subst e
        rw [hb6] at h
        simp at h
        exact h.2.1.symm
       have HQ:Hid (MOwn w7 w5.heap.size (.slice aq ms.length cq) ms xq):=Lib.hid (hq.typed hc7 (fun q hq2 e=>by
        obtain ⟨cs,m,hb⟩:=ownsRow_block hq.own q hq2
        exact absurd (hne7 q e cs 75 m hb) (by decide)) (fun q e cs m h=>absurd (hne7 q e cs 3 m h) (by decide)))
       have HbS7:Hid (w7.heap[sb]? = some (.cells #[.bool true,.slice aq ms.length cq] 69 (0,0))):=Lib.hid (by rw [hw7];exact block_two_set1 hb6)
       have HM7:Hid (MkIs w7 D3 mb nv s2 (sumN s2.sts)):=Lib.hid ((HM6.out.nob hc6).keep hc7 (fun q e hq2=>by have e:q=sb:=e;subst e;exact Hn3x.out.2 hq2) (fun q e cs m h=>absurd (hne7 q e cs 3 m h) (by decide)))
       have HW7:Hid (Chg D W w7):=Lib.hid ((HW6.out.trans hc6 (fun _ _ e=>e.elim)).trans hc7 (fun i hi e=>by have e:i=sb:=e;have:=Hxsb.out;have:=Hxb.out;omega))
       have Hs7:Hid (w5.heap.size≤w7.heap.size∧W.heap.size≤w5.heap.size):=(show _∧_ from ⟨Nat.le_trans hc6.size hc7.size,HW6.out.size⟩)
       have Hgr:Hid (Grows D D3 W.heap.size):=Lib.hid (fun k hk=>(Hg3.out k hk).imp id (fun e=>by have:=Hxsb.out;have:=Hxb.out;omega))
       clear hc6 hq hb6 hc7 hne7 hms hle6 hml
       go_upto_region 16 with fail
       rw [← hw7]
       clear hw7 t0 t1 tf0 tf1
       have hsum:=Hok3.out.sum
       obtain ⟨sm,hsm⟩:∃ sm,sm=sumN s2.sts:=⟨_,rfl⟩
       rw [← hsm] at HM7 hsum
       rw [← Hn.out] at hsum
       have Hsm:=Lib.hid hsm
       have hsm5:sm≤16777216:=by omega
       have HM8:Hid (MkIs ((w7.setCell ⟨mb,3,none⟩ (.int .i64 ((sm:Int)+(ms.length:Int)))).drew) D3 mb nv s2 ((sm:Int)+(ms.length:Int))):=Lib.hid ((HM7.out.moves _).nob ((Chg.refl Nob _).drew))
       obtain ⟨m3,mf3,-,hDmb⟩:=HM7.out.mv
       have HDmb:=Lib.hid hDmb
       have hmbsb:mb≠sb:=fun e=>Hn3x.out.2 (e ▸ hDmb)
       have hc8:Chg (At1 mb) w7 ((w7.setCell ⟨mb,3,none⟩ (.int .i64 ((sm:Int)+(ms.length:Int)))).drew):=((Chg.refl (At1 mb) w7).setCell (p:=⟨mb,3,none⟩) (fun _=>rfl) _).drew
       have HbS8:=Lib.hid (hc8.at HbS7.out (fun e=>hmbsb (show mb=sb from (show sb=mb from e).symm)))
       have h62:∀ q,At1 mb q→∀ cs t m,w7.heap[q]? = some (.cells cs t m)→t=62:=fun q e cs t m h=>by
        obtain ⟨_,_,_,_,_,_,_,_,hb,_⟩:=HM7.out
        have e:q=mb:=e
        subst e
        rw [hb] at h
        simp at h
        exact h.2.1.symm
       have HQ8:Hid (MOwn ((w7.setCell ⟨mb,3,none⟩ (.int .i64 ((sm:Int)+(ms.length:Int)))).drew) w5.heap.size (.slice aq ms.length cq) ms xq):=Lib.hid (HQ.out.typed hc8 (fun q hq2 e=>by
        obtain ⟨cs,m,hb⟩:=ownsRow_block HQ.out.own q hq2
        exact absurd (h62 q e cs 75 m hb) (by decide)) (fun q e cs m h=>absurd (h62 q e cs 3 m h) (by decide)))
       have HW8:Hid (Chg D W ((w7.setCell ⟨mb,3,none⟩ (.int .i64 ((sm:Int)+(ms.length:Int)))).drew)):=(show Chg D W _ from HW7.out.trans hc8 (fun i hi e=>by have e:i=mb:=e;subst e;exact (Hgr.out _ HDmb.out).elim id (fun e=>by omega)))
       have Hs8:Hid (w5.heap.size≤((w7.setCell ⟨mb,3,none⟩ (.int .i64 ((sm:Int)+(ms.length:Int)))).drew).heap.size):=(show _≤_ from Nat.le_trans Hs7.out.1 hc8.size)
       obtain ⟨c7a,c7b,_⟩:=cell_two HbS7.out
       clear hsum hsm hDmb hmbsb hc8 h62 c7a
       refine wp_region_free (fun i=>i != 10) (fun w'=>w'.cell? ⟨mb,3,none⟩=some (.int .i64 (sm:Int))∧w'.cell? ⟨sb,1,none⟩=some (.slice aq ms.length cq)) (by kernel_rfl) ⟨m3,c7b⟩ (fun hHeld=>?_)
       refine tkG 0 hHeld ?_
       refine tkG 1 hHeld ?_
       refine tkG 2 hHeld ?_
       refine tkG 3 hHeld ?_
       refine tkG 4 hHeld ?_
       refine tkG 5 hHeld ?_
       refine tkG 6 hHeld ?_
       refine tkB 7 hHeld ?_
       refine rdG 8 fun K hK=>?_
       go_simp
       refine hK.out _ _ (fun _=>hHeld) ?_
       clear hK K
       try simp only [Act.put]
       refine tkG 9 hHeld ?_
       refine rdG 10 fun K hK=>?_
       have h8:=HM8.out
       go_simp
       refine hK.out _ _ (fun h=>absurd h (by decide)) ?_
       clear hK K
       try simp only [Act.put]
       refine wpAnyG_done (by kernel_rfl) ?_ _
       go_simp
       clear hHeld h8 m3 mf3 c7b
       generalize (w7.setCell ⟨mb,3,none⟩ (.int .i64 ((sm:Int)+(ms.length:Int)))).drew=w8 at *
       obtain ⟨m3,-,-,-⟩:=HM8.out.mv
       obtain ⟨a8,c8,hl8⟩:=HM8.out.len
       rw [← Hn.out] at hl8
       by_cases h1:131072 < sm+ms.length
       ·have h1i:(131072:Int) < (sm:Int)+(ms.length:Int):=by omega
        go_wp2_with fail
        exact ⟨rfl,HW8.out,.inl ⟨stateI_many Hlk.out Hraw.out (.inl (by rw [← Hsm.out];omega)),rfl⟩⟩
       ·have h1i:¬ (131072:Int) < (sm:Int)+(ms.length:Int):=by omega
        have h1d:decide ((131072:Int) < (sm:Int)+(ms.length:Int))=false:=decide_eq_false h1i
        by_cases h2:4096≤n
        ·have h2i:(4096:Int)≤(n:Int):=by omega
         go_wp2_with fail
         exact ⟨rfl,HW8.out,.inl ⟨stateI_many Hlk.out Hraw.out (.inr (by rw [← Hn.out];omega)),rfl⟩⟩
        ·have h2i:¬ (4096:Int)≤(n:Int):=by omega
         have h2d:decide ((4096:Int)≤(n:Int))=false:=decide_eq_false h2i
         have h2n:decide (4096≤n)=false:=decide_eq_false h2
         obtain ⟨w9,hw9⟩:∃ w9,w9=w8.drew:=⟨_,rfl⟩
         have hc9:Chg Nob w8 w9:=by rw [hw9];exact (Chg.refl Nob w8).drew
         have hpush:=(HM8.out.nob hc9).push (by have:=Hok3.out.2.1;omega) (HQ8.out.nob hc9) (by omega) true
         obtain ⟨a9,c9,o9,sl',w10,hrun9,⟨g10,c10,rfl⟩,hcell10,hfr9,hcD10,hcD11,D4,hM11,hD4⟩:=hpush
         rw [← Hn.out] at o9 hcell10 hrun9
         have hb9:=hc9.at HbS8.out (fun e=>e)
         obtain ⟨s90,s91,_⟩:=cell_two hb9
         have hcA:Chg Nob w9 (w9.alloc (.cells #[.bool true,.slice aq ms.length cq] 69)):=(Chg.refl _ _).alloc _
         have HS20a:Hid ((w9.alloc (.cells #[.bool true,.slice aq ms.length cq] 69)).cell? ⟨mb,1,none⟩=some (.slice a9 n c9)∧(w9.alloc (.cells #[.bool true,.slice aq ms.length cq] 69)).cell? ⟨sb,0,none⟩=some (.bool true)∧(w9.alloc (.cells #[.bool true,.slice aq ms.length cq] 69)).cell? ⟨sb,1,none⟩=some (.slice aq ms.length cq)):=(show _∧_∧_ from ⟨hcA.cell' o9 (fun e=>e),hcA.cell' s90 (fun e=>e),hcA.cell' s91 (fun e=>e)⟩)
         have HS20b:Hid (w10.cell? ⟨mb,1,none⟩=some (.slice a9 n c9)∧w10.cell? ⟨sb,0,none⟩=some (.bool true)∧w10.cell? ⟨sb,1,none⟩=some (.slice aq ms.length cq)):=(show _∧_∧_ from ⟨hcell10,hcD10.cell' s90 (fun e=>Hn3x.out.2 e),hcD10.cell' s91 (fun e=>Hn3x.out.2 e)⟩)
         obtain ⟨w11,hw11⟩:∃ w11,w11=w10.setCell ⟨mb,1,none⟩ (.slice (some ⟨g10,0,none⟩) (s2.sts.length+1) c10):=⟨_,rfl⟩
         rw [← hw11] at hcD11 hM11
         rw [← Hn.out] at hw11
         have hnum:=hM11.number (by show s2.num.length < (s2.sts++[_]).length;rw [List.length_append];have:=HM8.out.few.1;show s2.num.length < s2.sts.length+1;omega) key Hsz.out n (by omega)
         obtain ⟨pb2,hpb2,w12,hrun12,hM12,hc12⟩:=hnum
         have HWend:Hid (Chg D W w12):=(show Chg D W w12 from ((HW8.out.trans hc9 (fun _ _ e=>e.elim)).trans hcD11 (fun i hi e=>(Hgr.out i e).elim id (fun e=>by omega))).trans hc12 (fun i hi e=>by
          rcases hD4 i e with e | e | e
          ·exact (Hgr.out i e).elim id (fun e=>by omega)
          ·have:=HW8.out.size;have:=hc9.size;omega
          ·have:=(HQ8.out.own.lt i e).1;have:=Hs7.out;omega))
         have HgrE:Hid (Grows D D4 W.heap.size):=(show Grows D D4 W.heap.size from fun k hk=>by
          rcases hD4 k hk with e | e | e
          ·exact Hgr.out k e
          ·exact .inr (by have:=HW8.out.size;have:=hc9.size;omega)
          ·exact .inr (by have:=(HQ8.out.own.lt k e).1;have:=Hs7.out;omega))
         have HMend:Hid (MkIs w12 D4 mb nv ⟨s2.sts++[⟨true,ms⟩],(key,n)::s2.num⟩ (sumN (s2.sts++[(⟨true,ms⟩:Sti)]))):=(show MkIs w12 D4 mb nv _ _ by
          rw [sumN_app,← Hsm.out,show ((sm+ms.length:Nat):Int)=(sm:Int)+(ms.length:Int) by omega]
          exact hM12)
         have Hst:Hid (stateI key true (untilI fa fb) s=some (n,⟨s2.sts++[⟨true,ms⟩],(key,n)::s2.num⟩)):=(show _=_ by
          rw [Hn.out]
          exact stateI_some Hlk.out Hraw.out (by rw [← Hsm.out,← Hn.out];omega))
         have HokE:Hid (MkOk ⟨s2.sts++[⟨true,ms⟩],(key,n)::s2.num⟩):=(show MkOk _ by
          have:=Hok3.out.push (fin:=true) (ms:=ms) key (by rw [← Hn.out];omega) hmsl (by rw [← Hn.out];exact HmsS.out)
          rw [Hn.out]
          exact this)
         have Hrun9:=Lib.hid hrun9
         have Hfr9:=Lib.hid hfr9
         have Hrun12:=Lib.hid hrun12
         have Hpb2:=Lib.hid hpb2
         have Hw11:=Lib.hid hw11
         have Hw9:=Lib.hid hw9
         rw [hw9] at o9 s90 s91
         clear hrun9 hfr9 hcell10 hcD10 hcD11 hM11 hD4 hb9 hcA hw11 hpb2 hrun12 hM12 hc12 hc9 hw9
         go_wp2_with fail
         clear m3 hl8 h1i h1d h2i h2d h2n
         refine wp_region_free (fun i=>i != 10) (fun w'=>w'.cell? ⟨mb,1,none⟩=some (.slice a9 n c9)∧w'.cell? ⟨sb,0,none⟩=some (.bool true)∧w'.cell? ⟨sb,1,none⟩=some (.slice aq ms.length cq)) (by kernel_rfl) ⟨o9,s90,s91⟩ (fun hHeld=>?_)
         rw [← Hw9.out] at hHeld ⊢
         refine tkG 0 hHeld ?_
         refine tkG 1 hHeld ?_
         refine tkG 2 hHeld ?_
         refine tkG 3 hHeld ?_
         refine tkG 4 hHeld ?_
         refine tkG 5 hHeld ?_
         refine rdG 6 fun K hK=>?_
         go_simp
         refine hK.out _ _ (fun _=>HS20a.out) ?_
         clear hK K
         try simp only [Act.put]
         refine rdG 7 fun K hK=>?_
         refine wp_append_runM (.tmp 114) (.tmp 116) 36 36 rfl _ _ rfl rfl _ _ Hrun9.out ?_
         refine hK.out _ _ (fun _=>HS20b.out) ?_
         clear hK K
         try simp only [Act.put]
         refine rdG 8 fun K hK=>?_
         go_simp
         refine hK.out _ _ (fun _=>HS20b.out) ?_
         clear hK K
         try simp only [Act.put]
         refine tkG 9 HS20b.out ?_
         refine rdG 10 fun K hK=>?_
         have f9:=Hfr9.out
         have o9:=HS20b.out.1
         go_simp
         refine hK.out _ _ (fun h=>absurd h (by decide)) ?_
         clear hK K f9 o9
         try simp only [Act.put]
         refine wpAnyG_done (by kernel_rfl) ?_ _
         go_simp
         clear hHeld o9 s90 s91
         rw [← Hw11.out]
         have hrun12:=Hrun12.out
         have hpb2:=Hpb2.out
         go_wp2_with fail
         go_ret
         exact ⟨HWend.out,.inr ⟨n,_,_,D4,Hst.out,rfl,HMend.out,HgrE.out,HokE.out,by show s.sts.length≤(s2.sts++[_]).length;rw [List.length_append];have:=Hle.out;omega,rfl,by show n < (s2.sts++[_]).length;rw [List.length_append,← Hn.out];exact Nat.lt_succ_self _⟩⟩
end Go.Proofs.YtkgfdgfhpdhhaaaGreat
