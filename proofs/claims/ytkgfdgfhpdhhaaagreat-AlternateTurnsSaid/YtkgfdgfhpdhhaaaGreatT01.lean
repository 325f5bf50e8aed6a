/- Parts of the walks and of the plain theory, the first: Plain lemmas on worlds that keep what lies outside a set of blocks, on rows that a call owns. Conditions: none. -/
import Derived.Test.YtkgfdgfhpdhhaaaGreatRows
import Derived.WalkKit
import Derived.WalkSpells
import Derived.WalkLawsBesides
import Derived.Lib.Hide
import Derived.Lib.AppendStr
import Derived.BigQuiet
import Derived.Lib.IndexBytes
import Derived.ProofKit
import Derived.OpenShut
import Derived.Deep.Slices
import Derived.Deep.Fields
import Derived.ChangeSame
import Derived.SizedLaws
namespace Go.Proofs.YtkgfdgfhpdhhaaaGreat
open Go.ChangeShapes Go.WideShapes Go.RowKit
structure Chg (S:Nat→Prop) (w w':World):Prop where
 os:w'.os=w.os
 tape:w'.tape=w.tape
 output:w'.output=w.output
 size:w.heap.size≤w'.heap.size
 block:∀ k,k < w.heap.size→¬ S k→w'.heap[k]? = w.heap[k]?
def Nob:Nat→Prop:=fun _=>False
theorem Chg.refl (S:Nat→Prop) (w:World):Chg S w w:=⟨rfl,rfl,rfl,Nat.le_refl _,fun _ _ _=>rfl⟩
theorem Chg.trans {S S':Nat→Prop} {a b c:World} (h:Chg S a b) (k:Chg S' b c) (hs:∀ i,i < a.heap.size→S' i→S i):Chg S a c :=
 ⟨k.os.trans h.os,k.tape.trans h.tape,k.output.trans h.output,Nat.le_trans h.size k.size,fun i hi hn=>(k.block i (Nat.lt_of_lt_of_le hi h.size) (fun e=>hn (hs i hi e))).trans (h.block i hi hn)⟩
theorem Chg.trans1 {S:Nat→Prop} {a b c:World} (h:Chg S a b) (k:Chg S b c):Chg S a c:=h.trans k (fun _ _ e=>e)
theorem Chg.mono {S S':Nat→Prop} {w w':World} (h:Chg S w w') (hs:∀ i,i < w.heap.size→S i→S' i):Chg S' w w' :=
 ⟨h.os,h.tape,h.output,h.size,fun i hi hn=>h.block i hi (fun e=>hn (hs i hi e))⟩
theorem Chg.any {S:Nat→Prop} {w w':World} (h:Chg Nob w w'):Chg S w w':=h.mono (fun _ _ e=>e.elim)
theorem Chg.alloc {S:Nat→Prop} {a w:World} (h:Chg S a w) (o:Obj):Chg S a (w.alloc o) :=
 h.trans (S':=fun _=>False) ⟨rfl,rfl,rfl,by simp,fun k hk _=>Below.heap_alloc _ _ _ hk⟩ (fun _ _ e=>e.elim)
theorem Chg.drew {S:Nat→Prop} {a w:World} (h:Chg S a w):Chg S a w.drew:=⟨h.os,h.tape,h.output,h.size,h.block⟩
theorem Chg.drewN {S:Nat→Prop} {a w:World} (h:Chg S a w) (n:Nat):Chg S a (w.drewN n):=⟨h.os,h.tape,h.output,h.size,h.block⟩
theorem Chg.setCell {S:Nat→Prop} {a w:World} (h:Chg S a w) {p:Addr} (hp:p.block < a.heap.size→S p.block) (u:Value):Chg S a (w.setCell p u) :=
 h.trans (S':=fun k=>k=p.block) ⟨rfl,rfl,rfl,by simp [World.setCell],fun k _ hn=>Below.heap_setCell _ _ _ _ hn⟩ (fun i hi e=>by subst e;exact hp hi)
theorem Chg.grown {S:Nat→Prop} {a w w':World} {row:Option Nat} (h:Chg S a w) (hg:w.grownBy w' row) (hr:∀ k,row=some k→k < a.heap.size→S k):Chg S a w' :=
 h.trans (S':=fun k=>row=some k) ⟨hg.os,hg.tape,hg.output,hg.size,fun k hk hn=>hg.block k hk (fun e=>hn e.symm)⟩ (fun i hi e=>hr i e hi)
theorem Chg.below {S:Nat→Prop} {B:Nat} {w w':World} (h:Chg S w w') (hB:B≤w.heap.size) (hs:∀ i,i < w.heap.size→S i→B≤i):Below B w w' :=
 ⟨h.os,h.tape,h.output,h.size,fun k hk=>h.block k (by omega) (fun e=>by have:=hs k (by omega) e;omega)⟩
theorem Chg.of_below {w w':World} (h:Below w.heap.size w w'):Chg Nob w w' :=
 ⟨h.os,h.tape,h.output,h.size,fun k hk _=>h.block k hk⟩
theorem Chg.toBelow {w w':World} (h:Chg Nob w w'):Below w.heap.size w w':=h.below (Nat.le_refl _) (fun _ _ e=>e.elim)
theorem Chg.at {S:Nat→Prop} {w w':World} (h:Chg S w w') {k:Nat} {o:Obj} (hk:w.heap[k]? = some o) (hn:¬ S k):w'.heap[k]? = some o:=by
 rw [h.block k (Array.getElem?_eq_some_iff.1 hk).1 hn];exact hk
theorem Chg.cell {S:Nat→Prop} {w w':World} (h:Chg S w w') {a:Addr} (hk:a.block < w.heap.size) (hn:¬ S a.block):w'.cell? a=w.cell? a:=World.cell?_of_block (h.block a.block hk hn)
theorem Chg.cell' {S:Nat→Prop} {w w':World} (h:Chg S w w') {a:Addr} {v:Value} (hc:w.cell? a=some v) (hn:¬ S a.block):w'.cell? a=some v:=by
 rw [h.cell (World.block_lt_of_cell? w a hc) hn];exact hc
theorem ownsRow_chg {S:Nat→Prop} {w w':World} {B:Nat} {e:TypeId} {z:Nat} {v:Value} {n:Nat} {xs:List Value} (h:w.ownsRow B e z v n xs) (hc:Chg S w w') (hn:∀ k,v.ownBlock=some k→¬ S k):w'.ownsRow B e z v n xs:=by
 refine ⟨h.1,?_⟩
 rcases h.2 with h2 | ⟨g,cap,cur,rfl,hb,hg,rest⟩
 ·exact .inl h2
 ·exact .inr ⟨g,cap,cur,rfl,hb,hc.at hg (hn g rfl),rest⟩
theorem ownsRow_some {w:World} {B:Nat} {e:TypeId} {z:Nat} {v:Value} {n:Nat} {xs:List Value} (h:w.ownsRow B e z v n xs) (hn:0 < n):∃ g cap,v = .slice (some ⟨g,0,none⟩) n cap∧∀ j u,xs[j]? = some u→w.cell? ((⟨g,0,none⟩:Addr).add j)=some u:=by
 rcases h.2 with ⟨_,h0⟩ | ⟨g,cap,cur,hv,_⟩
 ·omega
 ·exact ⟨g,cap,hv,h.cells (by rw [hv];rfl)⟩
theorem ownsRow_shape {w:World} {B:Nat} {e:TypeId} {z:Nat} {v:Value} {n:Nat} {xs:List Value} (h:w.ownsRow B e z v n xs):∃ ao c,v = .slice ao n c:=by
 rcases h.2 with ⟨h1,h0⟩ | ⟨g,cap,cur,hv,_⟩
 ·exact ⟨none,0,by rw [h1,h0]⟩
 ·exact ⟨_,_,hv⟩
theorem ownsRow_mono {w:World} {B B':Nat} {e:TypeId} {z:Nat} {v:Value} {n:Nat} {xs:List Value} (h:w.ownsRow B e z v n xs) (hB:B'≤B):w.ownsRow B' e z v n xs:=by
 refine ⟨h.1,?_⟩
 rcases h.2 with h2 | ⟨g,cap,cur,hv,hb,rest⟩
 ·exact .inl h2
 ·exact .inr ⟨g,cap,cur,hv,by omega,rest⟩
theorem ownsRow_setCell_type {w:World} {B:Nat} {e t:TypeId} {z:Nat} {v:Value} {n:Nat} {xs:List Value} (h:w.ownsRow B e z v n xs) {b o:Nat} {cs:Array Value} {m:Nat × Nat} (hb:w.heap[b]? = some (.cells cs t m)) (hne:e≠t) (u:Value) :
 (w.setCell ⟨b,o,none⟩ u).ownsRow B e z v n xs:=by
 refine ⟨h.1,?_⟩
 rcases h.2 with h2 | ⟨g,cap,cur,rfl,hbg,hg,rest⟩
 ·exact .inl h2
 ·refine .inr ⟨g,cap,cur,rfl,hbg,?_,rest⟩
  rw [Below.heap_setCell _ _ _ _ (by intro e1;have e2:g=b:=e1;rw [e2,hb] at hg;simp at hg;exact hne hg.2.1.symm)]
  exact hg
theorem ownsRow_ne_type {w:World} {B:Nat} {e t:TypeId} {z:Nat} {v:Value} {n:Nat} {xs:List Value} (hown:w.ownsRow B e z v n xs) {b:Nat} {cs:Array Value} {m:Nat × Nat} (hb:w.heap[b]? = some (.cells cs t m)) (hne:e≠t) :
 ∀ k,v.ownBlock=some k→B≤k∧k≠b:=by
 intro k hk
 refine ⟨(hown.lt k hk).1,fun e1=>?_⟩
 rcases hown.2 with ⟨h2,_⟩ | ⟨g',cap',cur',h2,_,hg',_⟩
 ·rw [h2] at hk;simp [Value.ownBlock] at hk
 ·rw [h2] at hk;simp [Value.ownBlock] at hk;rw [hk,e1,hb] at hg';simp at hg';exact hne hg'.2.1.symm
theorem cell_two {w:World} {b:Nat} {x y:Value} {t:TypeId} (h:w.heap[b]? = some (.cells #[x,y] t (0,0))):w.cell? ⟨b,0,none⟩=some x∧w.cell? ⟨b,1,none⟩=some y∧w.frozen? ⟨b,0,none⟩=false∧w.frozen? ⟨b,1,none⟩=false:=by
 simp [World.cell?,World.frozen?,h]
theorem block_two_set0 {w:World} {b:Nat} {x y u:Value} {t:TypeId} (h:w.heap[b]? = some (.cells #[x,y] t (0,0))):(w.setCell ⟨b,0,none⟩ u).heap[b]? = some (.cells #[u,y] t (0,0)):=by
 simp [World.setCell,Array.getElem?_modify,h]
theorem block_two_set1 {w:World} {b:Nat} {x y u:Value} {t:TypeId} (h:w.heap[b]? = some (.cells #[x,y] t (0,0))):(w.setCell ⟨b,1,none⟩ u).heap[b]? = some (.cells #[x,u] t (0,0)):=by
 simp [World.setCell,Array.getElem?_modify,h]
theorem cell_row {w:World} {b t:Nat} {cs:Array Value} {m:Nat × Nat} (h:w.heap[b]? = some (.cells cs t m)) (j:Nat) {v:Value} (hj:cs[j]? = some v):w.cell? ⟨b,j,none⟩=some v:=by
 unfold World.cell?
 simp [h,hj]
theorem block_one_set {w:World} {b:Nat} {x u:Value} {t:TypeId} (h:w.heap[b]? = some (.cells #[x] t (0,0))):(w.setCell ⟨b,0,none⟩ u).heap[b]? = some (.cells #[u] t (0,0)):=by
 simp [World.setCell,Array.getElem?_modify,h]
theorem cell_three {w:World} {b:Nat} {x y z:Value} {t:TypeId} (h:w.heap[b]? = some (.cells #[x,y,z] t (0,0))):w.cell? ⟨b,0,none⟩=some x∧w.cell? ⟨b,1,none⟩=some y∧w.cell? ⟨b,2,none⟩=some z∧w.frozen? ⟨b,1,none⟩=false∧w.frozen? ⟨b,2,none⟩=false:=by
 simp [World.cell?,World.frozen?,h]
def At1 (b:Nat):Nat→Prop:=fun k=>k=b
theorem ownsRow_block {w:World} {B:Nat} {e:TypeId} {z:Nat} {v:Value} {n:Nat} {xs:List Value} (h:w.ownsRow B e z v n xs):∀ k,v.ownBlock=some k→∃ cs m,w.heap[k]? = some (.cells cs e m):=by
 intro k hk
 rcases h.2 with ⟨h2,_⟩ | ⟨g',cap',cur',h2,_,hg',_⟩
 ·rw [h2] at hk;simp [Value.ownBlock] at hk
 ·rw [h2] at hk;simp [Value.ownBlock] at hk;subst hk;exact ⟨_,_,hg'⟩
theorem wpList_append_known {P:Program} {w:World} {ops:Array Oper} {rest:List Oper} {o:Oper} {a:Act} {Q:Exit→Act→World→Prop} (hgd:o.guard=none) (sl x:Operand) (t u:TypeId)
 (ho:o.op = .call { callee:= .builtin .append,args:=#[sl,x],argTypes:=#[t,u] }) (v xv:Value) (hs:a.eval sl=v) (hx:a.eval x=xv) (v':Value) (w':World)
 (hr:(Builtin.append_ #[t,u] o.type #[v,xv]).run P w = .ok v' w') (h:wpList P ops Q rest (a.put o.dst v') w'):wpList P ops Q (o::rest) a w:=by
 refine wpList_plain hgd fun K hK=>?_
 unfold Oper.wp execOp
 simp only [ho,resolve,invoke,builtin,Sem.run_bind,Sem.run_pure,Result.andThen_ok,List.map_toArray,List.map_cons,List.map_nil,hs,hx,hr]
 exact hK _ _ h
set_option maxRecDepth 100000
set_option maxHeartbeats 2000000
def letterB (x:UInt8):Bool:=decide ((97≤x.toNat∧x.toNat≤122)∨(65≤x.toNat∧x.toNat≤90)∨x.toNat=95)
def digitB (x:UInt8):Bool:=decide (48≤x.toNat∧x.toNat≤57)
def Rets (v:Value) (w:World) (e:Ending) (w':World):Prop:=e = .returned v∧w=w'
theorem letter_any (x:UInt8) (w:World):Calls Tryz.prog 147 #[.int .u8 x.toNat] w (Rets (.bool (letterB x)) w):=by
 go_enter Tryz.func147,Tryz.ntmps147
 go_wp2
 all_goals go_ret
 all_goals (refine ⟨?_,rfl⟩;show Ending.returned (Value.bool _)=Ending.returned (Value.bool _);refine congrArg (fun q=>Ending.returned (Value.bool q)) ?_;rw [Bool.eq_iff_iff];simp [letterB];omega)
theorem digit_any (x:UInt8) (w:World):Calls Tryz.prog 149 #[.int .u8 x.toNat] w (Rets (.bool (digitB x)) w):=by
 go_enter Tryz.func149,Tryz.ntmps149
 go_wp2
 all_goals go_ret
 all_goals (refine ⟨?_,rfl⟩;show Ending.returned (Value.bool _)=Ending.returned (Value.bool _);refine congrArg (fun q=>Ending.returned (Value.bool q)) ?_;rw [Bool.eq_iff_iff];simp [digitB];omega)
def Texts (w:World) (v:Value) (L:List (List UInt8)):Prop:=∃ ao cp,v = .slice ao L.length cp∧L.length≤9223372036854775807∧∀ j x,L[j]? = some x→∃ b o,ao=some ⟨b,o,none⟩∧w.cell? ⟨b,o+j,none⟩=some (.string ⟨x.toArray⟩)
def indexL (L:List (List UInt8)) (x:List UInt8):Int:=if x∈L then (L.idxOf x:Int) else -1
theorem idxOf_first:∀ {L:List (List UInt8)} {x:List UInt8} (k:Nat),L[k]? = some x→(∀ j y,j < k→L[j]? = some y→y≠x)→L.idxOf x=k
 | [],_,_,h,_=>by simp at h
 | y::L,x,0,h,_=>by
   obtain rfl:y=x:=by simpa using h
   exact List.idxOf_cons_self
 | y::L,x,k+1,h,hn=>by
   have h0:y≠x:=hn 0 y (by omega) rfl
   have ih:=idxOf_first (L:=L) k (by simpa using h) (fun j z hj hz=>hn (j+1) z (by omega) (by simpa using hz))
   rw [List.idxOf_cons,ih,beq_eq_false_iff_ne.2 h0]
   rfl
theorem index_any (v:Value) (L:List (List UInt8)) (x:List UInt8) (w:World) (hv:Texts w v L):Calls Tryz.prog 99 #[v,.string ⟨x.toArray⟩] w (Rets (.int .i64 (indexL L x)) w):=by
 obtain ⟨ao,cp,rfl,hlen,hc⟩:=hv
 have Hc:=Lib.hid hc
 clear hc
 go_enter Tryz.func99,Tryz.ntmps99
 go_wp2
 go_loopw [8] (fun i wr=>∃ k:Nat,i = .int .i64 k∧k≤L.length∧Hid (∀ j y,j < k→L[j]? = some y→y≠x)∧wr=w) (fun i _=>L.length - (intOf i).toNat)
 case atStart=>exact ⟨0,rfl,Nat.zero_le _,fun j y h=>absurd h (Nat.not_lt_zero j),rfl⟩
 case round =>
  obtain ⟨k,rfl,hk,hno,rfl⟩:=hrel
  by_cases hlt:k < L.length
  ·obtain ⟨y,hy⟩:∃ y,L[k]? = some y:=⟨_,List.getElem?_eq_getElem hlt⟩
   obtain ⟨b,o,rfl,hcell⟩:=Hc.out k y hy
   have hki:(k:Int) < (L.length:Int):=by omega
   have hk0:(0:Int)≤(k:Int):=by omega
   have Hy:=Lib.hid hy
   clear hy
   cases hxy:(x==y) with
   | true =>
     have hidx:indexL L x=k:=by
      have e:=beq_iff_eq.1 hxy
      subst e
      have hmem:x∈L:=List.mem_of_getElem? Hy.out
      unfold indexL
      rw [if_pos hmem,idxOf_first k Hy.out (fun j y hj hy=>hno.out j y hj hy)]
     go_wp2
     go_ret
     exact ⟨by rw [hidx];rfl,rfl⟩
   | false =>
     go_wp2
     go_roundw
     case rel=>exact ⟨k+1,by go_num,by omega,(show ∀ j y,j < k+1→L[j]? = some y→y≠x from fun j z hj hz=>by
      by_cases e:j=k
      ·subst e
       rw [Hy.out] at hz
       cases hz
       rw [beq_eq_false_iff_ne] at hxy
       exact fun e=>hxy e.symm
      ·exact hno.out j z (by omega) hz),trivial⟩
     case measure=>simp [intOf];omega
  ·obtain rfl:k=L.length:=by omega
   have hidx:indexL L x = -1:=by
    unfold indexL
    rw [if_neg]
    intro hmem
    obtain ⟨j,hj⟩:=List.mem_iff_getElem?.1 hmem
    exact hno.out j x (List.getElem?_eq_some_iff.1 hj).1 hj rfl
   go_wp2
   go_ret
   exact ⟨by rw [hidx];rfl,rfl⟩
theorem contains_any (v:Value) (L:List (List UInt8)) (x:List UInt8) (w:World) (hv:Texts w v L):Calls Tryz.prog 95 #[v,.string ⟨x.toArray⟩] w (Rets (.bool (decide (x∈L))) w):=by
 have h1:=index_any v L x w hv
 clear hv
 go_enter Tryz.func95,Tryz.ntmps95
 go_wp2_with fail
 (with_reducible refine h1.mono ?_)
 rintro e w' ⟨rfl,rfl⟩
 by_cases hx:x∈L
 ·have hi:(0:Int)≤indexL L x:=by unfold indexL;rw [if_pos hx];omega
  go_wp2
  go_ret
  exact ⟨by simp [hx],rfl⟩
 ·have hi:¬ (0:Int)≤indexL L x:=by unfold indexL;rw [if_neg hx];omega
  go_wp2
  go_ret
  exact ⟨by simp [hx];omega,rfl⟩
def wordsL:List (List UInt8):=[[116,114,117,101],[102,97,108,115,101],[88],[85],[86],[87],[97,108,119,97,121,115],[101,118,101,110,116,117,97,108,108,121],[110,101,120,116],[117,110,116,105,108],[114,101,108,101,97,115,101],[119,101,97,107,117,110,116,105,108]]
def isWord (x:List UInt8):Bool:=decide (x∈wordsL)
theorem texts_new (w:World) (L:List (List UInt8)) (hl:L.length≤1000):Texts (w.alloc (.cells (L.map (fun x=>Value.string ⟨x.toArray⟩)).toArray 9)) (.slice (some ⟨w.heap.size,0,none⟩) L.length L.length) L :=
 ⟨_,_,rfl,by omega,fun j x hx=>⟨_,_,rfl,by rw [Nat.zero_add];exact cell_row (heap_alloc_new w _) j (by simp [hx])⟩⟩
theorem words_any (x:List UInt8) (w:World):Calls Tryz.prog 148 #[.string ⟨x.toArray⟩] w fun e w'=>e = .returned (.bool (isWord x))∧Chg Nob w w':=by
 have h1:=contains_any _ wordsL x _ (texts_new w wordsL (by decide))
 have hb:decide (x∈wordsL)=isWord x:=rfl
 rw [hb] at h1
 clear hb
 simp only [wordsL,List.map_cons,List.map_nil,List.length_cons,List.length_nil,Nat.reduceAdd] at h1
 go_enter Tryz.func148,Tryz.ntmps148
 go_wp2_with fail
 (with_reducible refine h1.mono ?_)
 rintro e w' ⟨rfl,rfl⟩
 go_wp2
 go_ret
 exact ⟨rfl,(Chg.refl _ _).alloc _⟩
def kidsOf (k:Int):Int:=if 1≤k∧k≤3 then 0 else if 4≤k∧k≤7 then 1 else if 8≤k∧k≤14 then 2 else -1
theorem kids_any (k:Int) (w:World):Calls Tryz.prog 137 #[.int .i64 k] w (Rets (.int .i64 (kidsOf k)) w):=by
 go_enter Tryz.func137,Tryz.ntmps137
 go_wp2
 all_goals go_ret
 all_goals (refine ⟨?_,rfl⟩;show Ending.returned (Value.int _ _)=Ending.returned (Value.int _ _);refine congrArg (fun q=>Ending.returned (Value.int .i64 q)) ?_;unfold kidsOf;(try simp_all) <;> (repeat' split) <;> omega)
def headB:List UInt8→Bool
 | []=>false
 | c::_=>letterB c
def nameB (x:List UInt8):Bool:=decide (x.length≤32)&&headB x&&x.all (fun c=>letterB c || digitB c)&&!isWord x
theorem nameB_of {x:List UInt8} (h0:x.length≤32) (h1:headB x=true) (h2:x.all (fun c=>letterB c || digitB c)=true) (h3:isWord x=false):nameB x=true:=by
 unfold nameB
 rw [decide_eq_true h0,h1,h2,h3]
 rfl
theorem all_take {x:List UInt8} {p:UInt8→Bool} (h:∀ j c,j < x.length→x[j]? = some c→p c=true):x.all p=true:=by
 rw [List.all_eq_true]
 intro c hc
 obtain ⟨j,hj⟩:=List.mem_iff_getElem?.1 hc
 exact h j c (List.getElem?_eq_some_iff.1 hj).1 hj
theorem not_all_at {x:List UInt8} {p:UInt8→Bool} {k:Nat} {c:UInt8} (h:x[k]? = some c) (hp:p c=false):x.all p=false:=by
 rw [List.all_eq_false]
 exact ⟨c,List.mem_of_getElem? h,by simp [hp]⟩
theorem isname_any (x:List UInt8) (w:World):Calls Tryz.prog 94 #[.string ⟨x.toArray⟩] w fun e w'=>e = .returned (.bool (nameB x))∧Chg Nob w w':=by
 have hsz:(⟨x.toArray⟩:ByteArray).size=x.length:=by show x.toArray.size=_;simp
 by_cases hnil:x=[]
 ·subst hnil
  go_enter Tryz.func94,Tryz.ntmps94
  go_wp2_with fail
  go_ret
  exact ⟨rfl,Chg.refl _ _⟩
 ·have hpos:0 < x.length:=List.length_pos_iff.2 hnil
  have hne:(x==[])=false:=by rw [beq_eq_false_iff_ne];exact hnil
  have hnis:x.isEmpty=false:=by cases x with
   | nil=>exact absurd rfl hnil
   | cons _ _=>rfl
  clear hnil
  by_cases h32:32 < x.length
  ·have hn:nameB x=false:=by unfold nameB;rw [decide_eq_false (by omega)];simp
   have hl:(32:Int) < (x.length:Int):=by omega
   have Hn:=Lib.hid hn
   clear hn h32
   go_enter Tryz.func94,Tryz.ntmps94
   go_wp2_with fail
   go_ret
   exact ⟨by rw [Hn.out];rfl,Chg.refl _ _⟩
  ·have hl:¬ (32:Int) < (x.length:Int):=by omega
   have hlt0:0 < (⟨x.toArray⟩:ByteArray).size:=by omega
   obtain ⟨c,hc⟩:∃ c,(⟨x.toArray⟩:ByteArray)[0]'hlt0=c:=⟨_,rfl⟩
   have hx0:x[0]? = some c:=by
    have h2:=Lib.data_getElem? (⟨x.toArray⟩:ByteArray) _ hlt0
    rw [hc] at h2
    exact h2
   have hhead:headB x=letterB c:=by cases x with
    | nil=>simp at hx0
    | cons d l=>simp at hx0;subst hx0;rfl
   have hp0:(0:Int) < (x.length:Int):=by omega
   have Hh:=Lib.hid hhead
   clear hx0 hhead
   go_enter Tryz.func94,Tryz.ntmps94
   go_wp2_with fail
   (with_reducible refine (letter_any c _).mono ?_)
   rintro e w1 ⟨rfl,rfl⟩
   cases hlc:letterB c with
   | false =>
     have hn:nameB x=false:=by unfold nameB;rw [Hh.out,hlc];simp
     have Hn:=Lib.hid hn
     clear hn
     go_wp2_with fail
     go_ret
     exact ⟨by rw [Hn.out];rfl,Chg.refl _ _⟩
   | true =>
     go_wp2_with fail
     (with_reducible refine (words_any x _).mono ?_)
     rintro e w2 ⟨rfl,hc2⟩
     cases hwd:isWord x with
     | true =>
       have hn:nameB x=false:=by unfold nameB;rw [hwd];simp
       have Hn:=Lib.hid hn
       clear hn
       go_wp2_with fail
       go_ret
       exact ⟨by rw [Hn.out];rfl,hc2⟩
     | false =>
       go_wp2_with fail
       go_loopw [23] (fun i wr=>∃ k:Nat,i = .int .i64 k∧k≤x.length∧Hid (∀ j c,j < k→x[j]? = some c→(letterB c || digitB c)=true)∧wr=w2) (fun i _=>x.length - (intOf i).toNat)
       case atStart=>exact ⟨0,rfl,Nat.zero_le _,fun j y h=>absurd h (Nat.not_lt_zero j),rfl⟩
       case round =>
        obtain ⟨k,rfl,hk,hall,rfl⟩:=hrel
        by_cases hlt:k < x.length
        ·have hlt2:k < (⟨x.toArray⟩:ByteArray).size:=by omega
         obtain ⟨y,hy⟩:∃ y,(⟨x.toArray⟩:ByteArray)[k]'hlt2=y:=⟨_,rfl⟩
         have hxk:x[k]? = some y:=by
          have h2:=Lib.data_getElem? (⟨x.toArray⟩:ByteArray) _ hlt2
          rw [hy] at h2
          exact h2
         have hki:(k:Int) < (x.length:Int):=by omega
         have hk0:(0:Int)≤(k:Int):=by omega
         have Hx:=Lib.hid hxk
         clear hxk hc
         go_wp2_with fail
         (with_reducible refine (letter_any y _).mono ?_)
         rintro e w3 ⟨rfl,rfl⟩
         cases hly:letterB y with
         | true =>
           go_wp2_with fail
           go_roundw
           case rel=>exact ⟨k+1,by go_num,by omega,(show ∀ j c,j < k+1→x[j]? = some c→(letterB c || digitB c)=true from fun j z hj hz=>by
            by_cases e:j=k
            ·subst e
             rw [Hx.out] at hz
             cases hz
             simp [hly]
            ·exact hall.out j z (by omega) hz),trivial⟩
           case measure=>simp [intOf];omega
         | false =>
           go_wp2_with fail
           (with_reducible refine (digit_any y _).mono ?_)
           rintro e w3 ⟨rfl,rfl⟩
           cases hdy:digitB y with
           | true =>
             go_wp2_with fail
             go_roundw
             case rel=>exact ⟨k+1,by go_num,by omega,(show ∀ j c,j < k+1→x[j]? = some c→(letterB c || digitB c)=true from fun j z hj hz=>by
              by_cases e:j=k
              ·subst e
               rw [Hx.out] at hz
               cases hz
               simp [hdy]
              ·exact hall.out j z (by omega) hz),trivial⟩
             case measure=>simp [intOf];omega
           | false =>
             have hn:nameB x=false:=by unfold nameB;rw [not_all_at Hx.out (by simp [hly,hdy])];simp
             have Hn:=Lib.hid hn
             clear hn
             go_wp2_with fail
             go_ret
             exact ⟨by rw [Hn.out];rfl,hc2⟩
        ·obtain rfl:k=x.length:=by omega
         have hn:nameB x=true:=nameB_of (by omega) (by rw [Hh.out,hlc]) (all_take hall.out) hwd
         have Hn:=Lib.hid hn
         clear hn
         go_wp2_with fail
         go_ret
         exact ⟨by rw [Hn.out];rfl,hc2⟩
set_option maxRecDepth 512
inductive T where
 | node (k:Int) (nm:List UInt8) (kids:List T)
def T.kind:T→Int | .node k _ _=>k
def T.name:T→List UInt8 | .node _ nm _=>nm
def T.kids:T→List T | .node _ _ l=>l
mutual
/-- A formula that lies in the world, its kids in blocks that are so. -/
def IsTree (R:Nat→Prop) (W:World):T→Value→Prop
 | .node k nm kids,v=>∃ ao cap,v = .agg #[.int .i64 k,.string ⟨nm.toArray⟩,.slice ao kids.length cap]∧kids.length≤9223372036854775807∧IsKids R W ao 0 kids
def IsKids (R:Nat→Prop) (W:World) (ao:Option Addr):Nat→List T→Prop
 | _,[]=>True
 | i,t::ts=>(∃ b o k nm sl,ao=some ⟨b,o,none⟩∧R b∧W.cell? ⟨b,o+i * 3,none⟩=some (.int .i64 k)∧W.cell? ⟨b,o+i * 3+1,none⟩=some (.string nm)∧W.cell? ⟨b,o+i * 3+2,none⟩=some sl∧IsTree R W t (.agg #[.int .i64 k,.string nm,sl]))∧IsKids R W ao (i+1) ts
end
mutual
theorem IsTree.mono {R R':Nat→Prop} {W W':World} (hc:∀ a v,R a.block→W.cell? a=some v→W'.cell? a=some v) (hR:∀ b,R b→R' b):∀ (t:T) (v:Value),IsTree R W t v→IsTree R' W' t v
 | .node k nm kids,v,h=>by
   rw [IsTree] at h ⊢
   obtain ⟨ao,cap,rfl,hl,hk⟩:=h
   exact ⟨ao,cap,rfl,hl,IsKids.mono hc hR kids ao 0 hk⟩
theorem IsKids.mono {R R':Nat→Prop} {W W':World} (hc:∀ a v,R a.block→W.cell? a=some v→W'.cell? a=some v) (hR:∀ b,R b→R' b):∀ (l:List T) (ao:Option Addr) (i:Nat),IsKids R W ao i l→IsKids R' W' ao i l
 | [],_,_,_=>by rw [IsKids];trivial
 | t::ts,ao,i,h=>by
   rw [IsKids] at h ⊢
   obtain ⟨⟨b,o,k,nm,sl,hao,hb,c0,c1,c2,ht⟩,hts⟩:=h
   exact ⟨⟨b,o,k,nm,sl,hao,hR b hb,hc _ _ hb c0,hc _ _ hb c1,hc _ _ hb c2,IsTree.mono hc hR t _ ht⟩,IsKids.mono hc hR ts ao (i+1) hts⟩
end
theorem IsKids.at {R:Nat→Prop} {W:World} {ao:Option Addr}:∀ {l:List T} {i:Nat} (_:IsKids R W ao i l) {j:Nat} {t:T},l[j]? = some t →
 ∃ b o k nm sl,ao=some ⟨b,o,none⟩∧R b∧W.cell? ⟨b,o+(i+j) * 3,none⟩=some (.int .i64 k)∧W.cell? ⟨b,o+(i+j) * 3+1,none⟩=some (.string nm)∧W.cell? ⟨b,o+(i+j) * 3+2,none⟩=some sl∧IsTree R W t (.agg #[.int .i64 k,.string nm,sl])
 | [],_,_,_,_,h=>by simp at h
 | t::ts,i,hk,0,u,h=>by
   rw [IsKids] at hk
   obtain rfl:t=u:=by simpa using h
   exact hk.1
 | t::ts,i,hk,j+1,u,h=>by
   rw [IsKids] at hk
   have:=IsKids.at hk.2 (j:=j) (t:=u) (by simpa using h)
   rw [show i+1+j=i+(j+1) by omega] at this
   exact this
theorem IsKids.mk {R:Nat→Prop} {W:World} {ao:Option Addr}:∀ (l:List T) (i:Nat),(∀ j t,l[j]? = some t →
 ∃ b o k nm sl,ao=some ⟨b,o,none⟩∧R b∧W.cell? ⟨b,o+(i+j) * 3,none⟩=some (.int .i64 k)∧W.cell? ⟨b,o+(i+j) * 3+1,none⟩=some (.string nm)∧W.cell? ⟨b,o+(i+j) * 3+2,none⟩=some sl∧IsTree R W t (.agg #[.int .i64 k,.string nm,sl]))→IsKids R W ao i l
 | [],_,_=>by rw [IsKids];trivial
 | t::ts,i,h=>by
   rw [IsKids]
   refine ⟨by have:=h 0 t rfl;simpa using this,IsKids.mk ts (i+1) (fun j u hj=>?_)⟩
   have:=h (j+1) u (by simpa using hj)
   rw [show i+(j+1)=i+1+j by omega] at this
   exact this
theorem IsTree.chg {R:Nat→Prop} {S:Nat→Prop} {W W':World} {t:T} {v:Value} (h:IsTree R W t v) (hc:Chg S W W') (hs:∀ b,R b→¬ S b):IsTree R W' t v :=
 h.mono (fun _a _ hb hv=>hc.cell' hv (hs _ hb)) (fun _ e=>e) t v
theorem IsTree.nob {R:Nat→Prop} {W W':World} {t:T} {v:Value} (h:IsTree R W t v) (hc:Chg Nob W W'):IsTree R W' t v:=h.chg hc (fun _ _ e=>e)
theorem IsTree.parts {R:Nat→Prop} {W:World} {t:T} {v:Value} (h:IsTree R W t v):∃ ao cap,v = .agg #[.int .i64 t.kind,.string ⟨t.name.toArray⟩,.slice ao t.kids.length cap]∧t.kids.length≤9223372036854775807∧IsKids R W ao 0 t.kids:=by
 cases t with
 | node k nm kids=>rw [IsTree] at h;exact h
theorem IsTree.of_parts {R:Nat→Prop} {W:World} {t:T} {ao:Option Addr} {cap:Nat} (hl:t.kids.length≤9223372036854775807) (h:IsKids R W ao 0 t.kids):IsTree R W t (.agg #[.int .i64 t.kind,.string ⟨t.name.toArray⟩,.slice ao t.kids.length cap]):=by
 cases t with
 | node k nm kids=>rw [IsTree];exact ⟨ao,cap,rfl,hl,h⟩
theorem IsKids.kid {R:Nat→Prop} {W:World} {ao:Option Addr} {l:List T} (h:IsKids R W ao 0 l) {j:Nat} {t:T} (ht:l[j]? = some t) :
 ∃ b o ak cap,ao=some ⟨b,o,none⟩∧R b∧W.cell? ⟨b,o+j * 3,none⟩=some (.int .i64 t.kind)∧W.cell? ⟨b,o+j * 3+1,none⟩=some (.string ⟨t.name.toArray⟩)∧W.cell? ⟨b,o+j * 3+2,none⟩=some (.slice ak t.kids.length cap)∧t.kids.length≤9223372036854775807∧IsKids R W ak 0 t.kids∧IsTree R W t (.agg #[.int .i64 t.kind,.string ⟨t.name.toArray⟩,.slice ak t.kids.length cap]):=by
 obtain ⟨b,o,k,nm,sl,hao,hb,c0,c1,c2,hv⟩:=h.at ht
 rw [Nat.zero_add] at c0 c1 c2
 obtain ⟨ak,cap,e,hl,hk⟩:=hv.parts
 simp at e
 obtain ⟨rfl,rfl,rfl⟩:=e
 exact ⟨b,o,ak,cap,hao,hb,c0,c1,c2,hl,hk,hv⟩
end Go.Proofs.YtkgfdgfhpdhhaaaGreat
namespace Go.Proofs.YtkgfdgfhpdhhaaaGreat
abbrev Tok:=List UInt8 × Nat
def two (k:Int) (a b:T):T:= .node k [] [a,b]
def one (k:Int) (a:T):T:= .node k [] [a]
def opOf (n:Nat) (w:List UInt8):Option Int :=
 if n=0 then (if w=[60,45,62] then some 11 else none)
 else if n=1 then (if w=[45,62] then some 10 else none)
 else if n=2 then (if w=[124,124] then some 9 else none)
 else if n=3 then (if w=[38,38] then some 8 else none)
 else if n=4 then (if w=[85] then some 12 else if w=[86] then some 13 else if w=[87] then some 14 else none)
 else none
def leftOf (n:Nat):Bool:=decide (n=2∨n=3)
def preOf (w:List UInt8):Option Int :=
 if w=[33] then some 4 else if w=[88] then some 5 else if w=[91,93] then some 6 else if w=[60,62] then some 7 else none
def atomOf (w:List UInt8):Option T :=
 if w=[116,114,117,101] then some (.node 1 [] []) else if w=[102,97,108,115,101] then some (.node 2 [] []) else if nameB w then some (.node 3 w []) else none
def wrongAt (x:Tok):Int × Nat:=(if x.1=[] then 91 else 92,x.2)
inductive Mode where
 | lev (n:Nat)
 | loop (n:Nat) (t:T)
inductive Out where
 | ok (t:T) (l:List Tok)
 | err (e:Int × Nat)
inductive G:Mode→List Tok→Out→Prop where
 | down_err {n:Nat} {l:List Tok} {e:Int × Nat}:n≤4→G (.lev (n+1)) l (.err e)→G (.lev n) l (.err e)
 | none {n:Nat} {l:List Tok} {t:T} {x:Tok} {l':List Tok}:n≤4→leftOf n=false→G (.lev (n+1)) l (.ok t (x::l'))→opOf n x.1=none→G (.lev n) l (.ok t (x::l'))
 | op_err {n:Nat} {l:List Tok} {t:T} {x:Tok} {l':List Tok} {k:Int} {e:Int × Nat}:n≤4→leftOf n=false→G (.lev (n+1)) l (.ok t (x::l'))→opOf n x.1=some k→G (.lev n) l' (.err e)→G (.lev n) l (.err e)
 | op_ok {n:Nat} {l:List Tok} {t u:T} {x:Tok} {l' l2:List Tok} {k:Int}:n≤4→leftOf n=false→G (.lev (n+1)) l (.ok t (x::l'))→opOf n x.1=some k→G (.lev n) l' (.ok u l2)→G (.lev n) l (.ok (two k t u) l2)
 | left {n:Nat} {l:List Tok} {t:T} {l':List Tok} {o:Out}:n≤4→leftOf n=true→G (.lev (n+1)) l (.ok t l')→G (.loop n t) l' o→G (.lev n) l o
 | stop {n:Nat} {t:T} {x:Tok} {l:List Tok}:leftOf n=true→opOf n x.1=none→G (.loop n t) (x::l) (.ok t (x::l))
 | go_err {n:Nat} {t:T} {x:Tok} {l:List Tok} {k:Int} {e:Int × Nat}:leftOf n=true→opOf n x.1=some k→G (.lev (n+1)) l (.err e)→G (.loop n t) (x::l) (.err e)
 | go {n:Nat} {t u:T} {x:Tok} {l l':List Tok} {k:Int} {o:Out}:leftOf n=true→opOf n x.1=some k→G (.lev (n+1)) l (.ok u l')→G (.loop n (two k t u)) l' o→G (.loop n t) (x::l) o
 | pre_err {x:Tok} {l:List Tok} {k:Int} {e:Int × Nat}:preOf x.1=some k→G (.lev 5) l (.err e)→G (.lev 5) (x::l) (.err e)
 | pre {x:Tok} {l l':List Tok} {k:Int} {u:T}:preOf x.1=some k→G (.lev 5) l (.ok u l')→G (.lev 5) (x::l) (.ok (one k u) l')
 | atom {x:Tok} {l:List Tok} {t:T}:preOf x.1=none→atomOf x.1=some t→G (.lev 5) (x::l) (.ok t l)
 | par_err {x:Tok} {l:List Tok} {e:Int × Nat}:x.1=[40]→G (.lev 0) l (.err e)→G (.lev 5) (x::l) (.err e)
 | par_not {x y:Tok} {l l':List Tok} {t:T}:x.1=[40]→G (.lev 0) l (.ok t (y::l'))→y.1≠[41]→G (.lev 5) (x::l) (.err (wrongAt y))
 | par {x y:Tok} {l l':List Tok} {t:T}:x.1=[40]→G (.lev 0) l (.ok t (y::l'))→y.1=[41]→G (.lev 5) (x::l) (.ok t l')
 | bad {x:Tok} {l:List Tok}:preOf x.1=none→atomOf x.1=none→x.1≠[40]→G (.lev 5) (x::l) (.err (wrongAt x))
end Go.Proofs.YtkgfdgfhpdhhaaaGreat
namespace Go.Proofs.YtkgfdgfhpdhhaaaGreat
open Go.ChangeShapes Go.WideShapes Go.RowKit
set_option maxRecDepth 100000
theorem list_of {α : Type} {P:Nat→α→Prop}:∀ n,(∀ i,i < n→∃ x,P i x)→∃ L:List α,L.length=n∧∀ i x,L[i]? = some x→P i x
 | 0,_=>⟨[],rfl,fun i x h=>by simp at h⟩
 | n+1,h=>by
   obtain ⟨L,hl,hp⟩:=list_of n (fun i hi=>h i (by omega))
   obtain ⟨x,hx⟩:=h n (by omega)
   refine ⟨L++[x],by simp [hl],fun i y hy=>?_⟩
   by_cases hi:i < n
   ·rw [List.getElem?_append_left (by omega)] at hy;exact hp i y hy
   ·have hi2:i=n:=by
     have:=(List.getElem?_eq_some_iff.1 hy).1;simp [hl] at this;omega
    subst hi2
    rw [List.getElem?_append_right (by omega),hl] at hy
    simp at hy;subst hy;exact hx
def Old (W:World):Nat→Prop:=fun b=>b < W.heap.size
section
variable {H : Type} {enc : TypeId × Value → H} {W : World}
theorem tree_of:∀ (fuel:Nat) (cs:List Value) (x:DataW H × List MemPlace),DataW.trod enc Tryz.prog W 0 (fun _=>true) true fuel 24 cs=some x →
 ∃ t k nm sl,cs=[.int .i64 k,.string nm,sl]∧IsTree (Old W) W t (.agg #[.int .i64 k,.string nm,sl]):=by
 intro fuel
 induction fuel using Nat.strongRecOn with
 | ind fuel ih =>
   intro cs x h
   have c37:Tryz.prog.cellsOf 24=3:=by kernel_rfl
   have c3:Tryz.prog.cellsOf 3=1:=by kernel_rfl
   have c9:Tryz.prog.cellsOf 9=1:=by kernel_rfl
   have c35:Tryz.prog.cellsOf 22=1:=by kernel_rfl
   obtain ⟨xs,n,rfl,_,hcl,hxl,hf⟩:=DataW.trod_struct Tryz.underlying24 h
   rw [c37] at hcl
   match cs,hcl with
   | [v0,v1,v2],_ =>
     match xs,hxl with
     | [y0,y1,y2],_ =>
       have h0:DataW.trod enc Tryz.prog W 0 (fun _=>true) true n 3 (([v0,v1,v2].drop 0).take (Tryz.prog.cellsOf 3))=some y0:=hf 0 _ rfl
       have h1:DataW.trod enc Tryz.prog W 0 (fun _=>true) true n 9 (([v0,v1,v2].drop 1).take (Tryz.prog.cellsOf 9))=some y1:=hf 1 _ rfl
       have h2:DataW.trod enc Tryz.prog W 0 (fun _=>true) true n 22 (([v0,v1,v2].drop 2).take (Tryz.prog.cellsOf 22))=some y2:=hf 2 _ rfl
       rw [c3] at h0
       rw [c9] at h1
       rw [c35] at h2
       simp only [List.drop_zero,List.drop_succ_cons,List.take_succ_cons,List.take_zero] at h0 h1 h2
       obtain ⟨k,e0,_,_⟩:=DataW.trod_int Tryz.underlying3 h0
       obtain ⟨nm,e1,_,_⟩:=DataW.trod_string Tryz.underlying9 h1
       simp at e0 e1
       subst e0 e1
       rcases DataW.trod_slice Tryz.underlying22 h2 with ⟨e2,_⟩ | ⟨a,len,cap,elems,rest,m,hm,e2,_,_,hlc,hcm,hel,hi,_⟩
       ·simp at e2
        subst e2
        exact ⟨.node k nm.data.toList [],k,nm,_,rfl,by rw [IsTree];exact ⟨none,0,rfl,by simp,by rw [IsKids];trivial⟩⟩
       ·simp at e2
        subst e2
        obtain ⟨L,hL,hP⟩:=list_of (P:=fun i (t:T)=>∃ b o k nm sl,a=⟨b,o,none⟩∧b < W.heap.size∧W.cell? ⟨b,o+i * 3,none⟩=some (.int .i64 k)∧W.cell? ⟨b,o+i * 3+1,none⟩=some (.string nm)∧W.cell? ⟨b,o+i * 3+2,none⟩=some sl∧IsTree (Old W) W t (.agg #[.int .i64 k,.string nm,sl])) len (fun i hil=>by
         have hb:=hi i hil
         rw [List.getElem?_eq_getElem (by omega)] at hb
         obtain ⟨cs',hcs,ht⟩:=Option.bind_eq_some_iff.1 hb
         rw [c37] at hcs
         obtain ⟨t,k',nm',sl',rfl,htree⟩:=ih m (by omega) cs' _ ht
         obtain ⟨_,_,hat⟩:=World.cells?_some hcs
         obtain ⟨b,o,spot⟩:=a
         have hs:spot=none:=by
          have hb0:=hi 0 (by omega)
          rw [List.getElem?_eq_getElem (by omega)] at hb0
          obtain ⟨cs0,hcs0,ht0⟩:=Option.bind_eq_some_iff.1 hb0
          rw [c37] at hcs0
          obtain ⟨t0,k0,nm0,sl0,rfl,_⟩:=ih m (by omega) cs0 _ ht0
          obtain ⟨_,_,hat0⟩:=World.cells?_some hcs0
          have h00:=hat0 0 (by decide)
          simp only [List.getElem?_cons_zero] at h00
          simpa [Addr.add] using World.cell?_spot h00
         subst hs
         have a0:=hat 0 (by decide)
         have a1:=hat 1 (by decide)
         have a2:=hat 2 (by decide)
         rw [Go.WideShapes.add_plain,Go.WideShapes.add_plain] at a0 a1 a2
         simp only [List.getElem?_cons_zero,List.getElem?_cons_succ,Nat.add_zero] at a0 a1 a2
         exact ⟨t,b,o,k',nm',sl',rfl,World.block_lt_of_cell? W _ a0,a0,a1,a2,htree⟩)
        refine ⟨.node k nm.data.toList L,k,nm,_,rfl,?_⟩
        rw [IsTree]
        refine ⟨some a,cap,by rw [hL],by rw [hL];unfold maxLen at hcm;omega,IsKids.mk L 0 (fun j t ht=>?_)⟩
        obtain ⟨b,o,k',nm',sl',rfl,hb,q0,q1,q2,q3⟩:=hP j t ht
        rw [Nat.zero_add]
        exact ⟨b,o,k',nm',sl',rfl,hb,q0,q1,q2,q3⟩
theorem open_tree {b0:Nat} {v:Value} {d:DataW H} {p:List MemPlace} (hv:Value.okWide Tryz.prog W .any b0 24 v) (h:DataW.Trod enc Tryz.prog W 0 (fun _=>true) true 24 v d p):∃ t,IsTree (Old W) W t v:=by
 unfold Value.okWide at hv
 rw [Tryz.underlying24] at hv
 obtain ⟨cs,rfl,hcs,_⟩:=hv
 obtain ⟨fuel,hf⟩:=h
 obtain ⟨t,k,nm,sl,e,ht⟩:=tree_of fuel _ _ hf
 obtain ⟨l⟩:=cs
 simp [Value.cells] at e
 subst e
 exact ⟨t,ht⟩
end
set_option maxRecDepth 512
mutual
def sizeT:T→Nat
 | .node _ _ kids=>1+sizeL kids
def sizeL:List T→Nat
 | []=>0
 | t::ts=>sizeT t+sizeL ts
end
theorem sizeT_eq (t:T):sizeT t=1+sizeL t.kids:=by cases t;rw [sizeT];rfl
theorem sizeT_kid:∀ {l:List T} {j:Nat} {t:T},l[j]? = some t→sizeT t≤sizeL l
 | [],_,_,h=>by simp at h
 | u::l,0,t,h=>by
   obtain rfl:u=t:=by simpa using h
   rw [sizeL];omega
 | u::l,j+1,t,h=>by
   have:=sizeT_kid (l:=l) (j:=j) (t:=t) (by simpa using h)
   rw [sizeL];omega
mutual
def greatT:T→Int→Int
 | .node _ _ kids,left=>greatL kids (left - 1)
def greatL:List T→Int→Int
 | [],left=>left
 | t::ts,left=>if 0 < left then greatL ts (greatT t left) else left
end
theorem greatT_eq (t:T) (left:Int):greatT t left=greatL t.kids (left - 1):=by cases t;rw [greatT];rfl
mutual
theorem greatT_le:∀ (t:T) (left:Int),0 < left→0≤greatT t left∧greatT t left < left
 | .node _ _ kids,left,h=>by
   rw [greatT]
   have:=greatL_le kids (left - 1) (by omega)
   omega
theorem greatL_le:∀ (l:List T) (left:Int),0≤left→0≤greatL l left∧greatL l left≤left
 | [],left,h=>by rw [greatL];omega
 | t::ts,left,h=>by
   rw [greatL]
   split
   ·rename_i h0
    have h1:=greatT_le t left h0
    have h2:=greatL_le ts (greatT t left) (by omega)
    omega
   ·omega
end
theorem drop_at' {α : Type} {l:List α} {k:Nat} {x : α} (h:l[k]? = some x):l.drop k=x::l.drop (k+1):=by
 obtain ⟨h1,h2⟩:=List.getElem?_eq_some_iff.1 h
 rw [List.drop_eq_getElem_cons h1,h2]
def GrRel (W1:World) (kids:List T) (r left:Int) (l i:Value) (wr:World):Prop :=
 ∃ (k:Nat) (n:Int),l = .int .i64 n∧i = .int .i64 k∧k≤kids.length∧0≤n∧n < left∧Hid (r=greatL (kids.drop k) n)∧Chg Nob W1 wr
end Go.Proofs.YtkgfdgfhpdhhaaaGreat
