/- Parts of the walks and of the plain theory, the first: What is wrong with what a table is asked. Conditions: the formula and the names lie in the world, the formula is not too great. -/
import Derived.Test.YtkgfdgfhpdhhaaaGreatT20
import Derived.Test.YtkgfdgfhpdhhaaaGreatT10
import Derived.Test.YtkgfdgfhpdhhaaaGreatT09
namespace Go.Proofs.YtkgfdgfhpdhhaaaGreat
open Go.ChangeShapes Go.WideShapes Go.RowKit Go.Shelf
attribute [local go_sem] Oper.semAt_some
set_option maxRecDepth 100000
set_option maxHeartbeats 8000000
def namesOk (names:List (List UInt8)):Prop:=∀ j,j < names.length→nameB (names.getD j [])=true∧names.getD j [] ∉ names.take j
instance (names:List (List UInt8)):Decidable (namesOk names):=Nat.decidableBallLT _ _
def checkedN (t:T) (names:List (List UInt8)) (np nl:Nat):Int :=
 if checkN t≠0 then checkN t else if 20000 < sizeT t then 2 else if 60 < names.length then 1 else if ¬ namesOk names then 1 else if ¬ (∀ x∈namesT t,x∈names) then 94 else lcheckN np nl
theorem box_tw (w:World) (a b c d e:Value):∃ X,X=(w.alloc (.cells #[a,b,c] 24)).alloc (.cells #[d,e] 28)∧Chg Nob w X∧X.heap[w.heap.size]? = some (.cells #[a,b,c] 24 (0,0))∧X.heap[w.heap.size+1]? = some (.cells #[d,e] 28 (0,0))∧X.heap.size=w.heap.size+2:=by
 have h1:=heap_alloc_new (w.alloc (.cells #[a,b,c] 24)) (.cells #[d,e] 28)
 rw [World.size_alloc] at h1
 exact ⟨_,rfl,((Chg.refl _ _).alloc _).alloc _,((Chg.refl Nob _).alloc _).at (heap_alloc_new w _) (fun e=>e),h1,by rw [World.size_alloc,World.size_alloc]⟩
theorem Texts.take {w:World} {b o:Nat} {n c:Nat} {names:List (List UInt8)} (h:Texts w (.slice (some ⟨b,o,none⟩) n c) names) (j m:Nat) (hj:j≤names.length):Texts w (.slice (some ⟨b,o,none⟩) j m) (names.take j):=by
 obtain ⟨a0,cp0,e0,l0,h0⟩:=h
 refine ⟨some ⟨b,o,none⟩,m,by rw [List.length_take,Nat.min_eq_left hj],by rw [List.length_take];omega,fun i x hi=>?_⟩
 have hi':names[i]? = some x:=by
  rw [List.getElem?_take] at hi
  split at hi
  ·exact hi
  ·cases hi
 obtain ⟨b1,o1,e1,h1⟩:=h0 i x hi'
 cases e0
 exact ⟨b1,o1,e1,h1⟩
section
variable {R : Nat → Prop} {t : T} {v : Value} {w : World} {names : List (List UInt8)} {an ap al : Option Addr} {cn np cp nl cl : Nat}
theorem checked_any (ht:IsTree R w t v) (hN:sizeT t≤1000000) (hR:∀ b,R b→b < w.heap.size) (hn:Texts w (.slice an names.length cn) names) (hcn:names.length≤cn) (hl:np+nl≤10000) :
 Calls Tryz.prog 58 #[v,.slice an names.length cn,.agg #[.slice ap np cp,.slice al nl cl]] w fun e w'=>e = .returned (.int .i64 (checkedN t names np nl))∧Chg Nob w w':=by
 obtain ⟨ao,cap,rfl,hlen,_⟩:=ht.parts
 obtain ⟨X,hX,hcX,hb0,hb1,hsX⟩:=box_tw w (.int .i64 t.kind) (.string ⟨t.name.toArray⟩) (.slice ao t.kids.length cap) (.slice ap np cp) (.slice al nl cl)
 obtain ⟨c0,c1,c2,_⟩:=cells_three hb0
 obtain ⟨d0,d1,_⟩:=cell_two hb1
 rw [hX] at c0 c1 c2
 have hp:∀ W,Chg Nob X W→Calls Tryz.prog 73 #[.agg #[.int .i64 t.kind,.string ⟨t.name.toArray⟩,.slice ao t.kids.length cap]] W fun e w'=>e = .returned (.int .i64 (checkN t))∧Chg Nob W w':=fun W hW=>check_any' R t _ W (ht.nob (hcX.trans1 hW)) hN (fun b hb=>by have:=hR b hb;have:=hcX.size;have:=hW.size;omega)
 have hp2:∀ W,Chg Nob X W→Calls Tryz.prog 47 #[.agg #[.int .i64 t.kind,.string ⟨t.name.toArray⟩,.slice ao t.kids.length cap]] W fun e w'=>e = .returned (.int .i64 (min (sizeT t) 20001:Nat))∧Chg Nob W w':=fun W hW=>size_any R t _ W (ht.nob (hcX.trans1 hW)) hN (fun b hb=>by have:=hR b hb;have:=hcX.size;have:=hW.size;omega)
 have hp3:∀ W,Chg Nob X W→Calls Tryz.prog 45 #[.agg #[.int .i64 t.kind,.string ⟨t.name.toArray⟩,.slice ao t.kids.length cap]] W (NamesPost t W):=fun W hW=>names_any R t _ W (ht.nob (hcX.trans1 hW)) hN (fun b hb=>by have:=hR b hb;have:=hcX.size;have:=hW.size;omega)
 have HcX:=Lib.hid hcX
 have Hb0:=Lib.hid hb0
 have Hb1:=Lib.hid hb1
 have HsX:=Lib.hid hsX
 have Hp:=Lib.hid hp
 have Hp2:=Lib.hid hp2
 have Hp3:=Lib.hid hp3
 have Hn:=Lib.hid (hn.nob hcX)
 clear ht hR hn hcX hb0 hb1 hsX hp hp2 hp3 hN
 go_enter Tryz.func58,Tryz.ntmps58
 go_wp2_with fail
 rw [← hX]
 clear hX c0 c1 c2 d0 d1
 (with_reducible refine (Hp.out X (Chg.refl _ _)).mono ?_)
 rintro e w1 ⟨rfl,hc1⟩
 have Hc1:=Lib.hid hc1
 clear hc1 Hp
 by_cases h0:checkN t=0
 ·have h0b:(checkN t != 0)=false:=by simp [h0]
  obtain ⟨c0,c1,c2,_⟩:=cells_three (Hc1.out.at Hb0.out (fun e=>e))
  go_wp2_with fail
  (with_reducible refine (Hp2.out w1 Hc1.out).mono ?_)
  rintro e w2 ⟨rfl,hc2⟩
  have Hc2:Hid (Chg Nob X w2):=Lib.hid (Hc1.out.trans1 hc2)
  clear hc2 Hp2 Hc1 c0 c1 c2
  obtain ⟨m,hm⟩:∃ m,m=min (sizeT t) 20001:=⟨_,rfl⟩
  rw [← hm]
  by_cases h1:20000 < sizeT t
  ·have Hr:Hid (checkedN t names np nl=2):=(show checkedN t names np nl=2 by unfold checkedN;rw [if_neg (by simp [h0]),if_pos h1])
   have hmi:(20000:Int) < (m:Int):=by omega
   clear h0 h1 hm
   go_wp2_with fail
   go_ret
   exact ⟨by rw [Hr.out];rfl,HcX.out.trans1 Hc2.out⟩
  ·have hmi:¬ (20000:Int) < (m:Int):=by omega
   have hmd:decide ((20000:Int) < (m:Int))=false:=by simpa using hmi
   have H1:=Lib.hid h1
   clear h1 hm
   by_cases h2:60 < names.length
   ·have Hr:Hid (checkedN t names np nl=1):=(show checkedN t names np nl=1 by unfold checkedN;rw [if_neg (by simp [h0]),if_neg H1.out,if_pos h2])
    have h2i:(60:Int) < (names.length:Int):=by omega
    clear h0
    go_wp2_with fail
    go_ret
    exact ⟨by rw [Hr.out];rfl,HcX.out.trans1 Hc2.out⟩
   ·have h2i:¬ (60:Int) < (names.length:Int):=by omega
    have h2d:decide ((60:Int) < (names.length:Int))=false:=by simpa using h2i
    have H2:=Lib.hid h2
    have H0:=Lib.hid h0
    clear h0
    go_wp2_with fail
    go_loopw [25] (fun iv wr=>∃ i:Nat,iv = .int .i64 (i:Int)∧i≤names.length∧Hid (∀ j,j < i→nameB (names.getD j [])=true∧names.getD j [] ∉ names.take j)∧Hid (Chg Nob X wr)) (fun iv _=>names.length - (intOf iv).toNat)
    case atStart=>exact ⟨0,rfl,Nat.zero_le _,(by show ∀ j,j < 0→_;intro j hj;omega),Hc2⟩
    case round =>
     obtain ⟨i,rfl,hi,Hok,Hc⟩:=hrel
     by_cases hlt:i < names.length
     ·obtain ⟨x,hx⟩:∃ x,names[i]? = some x:=⟨_,List.getElem?_eq_getElem hlt⟩
      have hxd:names.getD i []=x:=by rw [List.getD_eq_getElem?_getD,hx];rfl
      have Hxd:=Lib.hid hxd
      obtain ⟨a0,cp0,e0,l0,h00⟩:=Hn.out
      cases e0
      obtain ⟨b,o,rfl,hcell⟩:=h00 i x hx
      clear h00
      have hii:(i:Int) < (names.length:Int):=by omega
      have hi0:(0:Int)≤(i:Int):=by omega
      have hcell2:=Hc.out.cell' hcell (fun e=>e)
      have hic:(i:Int)≤(cn:Int):=by omega
      have hpn:Calls Tryz.prog 94 #[.string ⟨x.toArray⟩] wr fun e w'=>e = .returned (.bool (nameB x))∧Chg Nob wr w':=isname_any x wr
      clear hcell hx hxd
      go_wp2_with fail
      (with_reducible refine hpn.mono ?_)
      clear hpn hcell2
      rintro e w3 ⟨rfl,hc3⟩
      have Hc3:Hid (Chg Nob X w3):=Lib.hid (Hc.out.trans1 hc3)
      clear hc3
      cases hnb:nameB x with
      | false =>
        have Hr:Hid (checkedN t names np nl=1):=(show checkedN t names np nl=1 by
         unfold checkedN
         rw [if_neg (by simp [H0.out]),if_neg H1.out,if_neg H2.out,if_pos]
         intro hall
         have:=(hall i hlt).1
         rw [Hxd.out,hnb] at this
         exact absurd this (by decide))
        go_wp2_with fail
        go_ret
        exact ⟨by rw [Hr.out];rfl,HcX.out.trans1 Hc3.out⟩
      | true =>
        have hpc:∀ m,Calls Tryz.prog 95 #[.slice (some ⟨b,o,none⟩) i m,.string ⟨x.toArray⟩] w3 (Rets (.bool (decide (x∈names.take i))) w3):=fun m=>contains_any _ _ x w3 ((Texts.take Hn.out i m hi).nob Hc3.out)
        go_wp2_with fail
        (with_reducible refine (hpc _).mono ?_)
        clear hpc
        rintro e w4 ⟨rfl,rfl⟩
        cases hd:decide (x∈names.take i) with
        | true =>
          have Hr:Hid (checkedN t names np nl=1):=(show checkedN t names np nl=1 by
           unfold checkedN
           rw [if_neg (by simp [H0.out]),if_neg H1.out,if_neg H2.out,if_pos]
           intro hall
           have:=(hall i hlt).2
           rw [Hxd.out] at this
           exact this (of_decide_eq_true hd))
          go_wp2_with fail
          go_ret
          exact ⟨by rw [Hr.out];rfl,HcX.out.trans1 Hc3.out⟩
        | false =>
          have Hok2:Hid (∀ j,j < i+1→nameB (names.getD j [])=true∧names.getD j [] ∉ names.take j):=(show ∀ j,j < i+1→nameB (names.getD j [])=true∧names.getD j [] ∉ names.take j by
           intro j hj
           by_cases hji:j=i
           ·subst hji
            rw [Hxd.out]
            exact ⟨hnb,of_decide_eq_false hd⟩
           ·exact Hok.out j (by omega))
          go_wp2_with fail
          go_roundw
          case rel=>exact ⟨i+1,by go_num,by omega,Hok2,Hc3⟩
          case measure=>simp [intOf];omega
     ·obtain rfl:i=names.length:=by omega
      have H3:Hid (namesOk names):=Hok.out
      obtain ⟨c0,c1,c2,_⟩:=cells_three (Hc.out.at Hb0.out (fun e=>e))
      go_wp2_with fail
      (with_reducible refine (Hp3.out wr Hc.out).mono ?_)
      rintro e w3 ⟨hc3,sl,rfl,ts⟩
      obtain ⟨a9,c9,rfl,ls,hts⟩:=ts
      have Hc3:Hid (Chg Nob X w3):=Lib.hid (Hc.out.trans1 hc3)
      have Hts:=Lib.hid hts
      clear hc3 Hp3 c0 c1 c2 hts Hok
      go_wp2_with fail
      go_loopw [44] (fun iv wk=>∃ k:Nat,iv = .int .i64 (k:Int)∧k≤(namesT t).length∧Hid (∀ j x,j < k→(namesT t)[j]? = some x→x∈names)∧Hid (Chg Nob w3 wk)) (fun iv _=>(namesT t).length - (intOf iv).toNat)
      case atStart=>exact ⟨0,rfl,Nat.zero_le _,(by show ∀ j x,j < 0→_;intro j x hj;omega),Chg.refl _ _⟩
      case round =>
       obtain ⟨k,rfl,hk,Hin,Hk⟩:=hrel
       by_cases hkl:k < (namesT t).length
       ·obtain ⟨x,hx⟩:∃ x,(namesT t)[k]? = some x:=⟨_,List.getElem?_eq_getElem hkl⟩
        obtain ⟨b,o,rfl,hcell⟩:=Hts.out k x hx
        have hki:(k:Int) < ((namesT t).length:Int):=by omega
        have hk0:(0:Int)≤(k:Int):=by omega
        have hcell2:=Hk.out.cell' hcell (fun e=>e)
        have hpc:Calls Tryz.prog 95 #[.slice an names.length cn,.string ⟨x.toArray⟩] wr (Rets (.bool (decide (x∈names))) wr):=contains_any _ _ x wr ((Hn.out.nob Hc3.out).nob Hk.out)
        have Hx:=Lib.hid hx
        clear hcell hx
        go_wp2_with fail
        (with_reducible refine hpc.mono ?_)
        clear hpc hcell2
        rintro e w4 ⟨rfl,rfl⟩
        cases hd:decide (x∈names) with
        | false =>
          have Hr:Hid (checkedN t names np nl=94):=(show checkedN t names np nl=94 by
           unfold checkedN
           rw [if_neg (by simp [H0.out]),if_neg H1.out,if_neg H2.out,if_neg (fun h=>h H3.out),if_pos]
           exact fun hall=>of_decide_eq_false hd (hall x (List.mem_of_getElem? Hx.out)))
          go_wp2_with fail
          go_ret
          exact ⟨by rw [Hr.out];rfl,(HcX.out.trans1 Hc3.out).trans1 Hk.out⟩
        | true =>
          have Hin2:Hid (∀ j x,j < k+1→(namesT t)[j]? = some x→x∈names):=(show ∀ j x,j < k+1→(namesT t)[j]? = some x→x∈names by
           intro j y hj hy
           by_cases hjk:j=k
           ·subst hjk
            rw [Hx.out] at hy
            cases hy
            exact of_decide_eq_true hd
           ·exact Hin.out j y (by omega) hy)
          go_wp2_with fail
          go_roundw
          case rel=>exact ⟨k+1,by go_num,by omega,Hin2,Hk⟩
          case measure=>simp [intOf];omega
       ·obtain rfl:k=(namesT t).length:=by omega
        have Hr:Hid (checkedN t names np nl=lcheckN np nl):=(show checkedN t names np nl=lcheckN np nl by
         unfold checkedN
         rw [if_neg (by simp [H0.out]),if_neg H1.out,if_neg H2.out,if_neg (fun h=>h H3.out),if_neg]
         intro hno
         apply hno
         intro x hx
         obtain ⟨j,hj,rfl⟩:=List.mem_iff_getElem.1 hx
         exact Hin.out j _ hj (List.getElem?_eq_getElem hj))
        have hck:=lcheck_any (cp:=cp) (cl:=cl) (ap:=ap) (al:=al) (w:=wr) np nl hl
        have Hck:Hid (Chg Nob X wr):=Lib.hid (Hc3.out.trans1 Hk.out)
        obtain ⟨d0,d1,_⟩:=cell_two (Hck.out.at Hb1.out (fun e=>e))
        go_wp2_with fail
        (with_reducible refine hck.mono ?_)
        clear hck
        rintro e w4 ⟨rfl,hc4⟩
        go_wp2_with fail
        go_ret
        exact ⟨by rw [Hr.out];rfl,(HcX.out.trans1 Hck.out).trans1 hc4⟩
 ·have Hr:Hid (checkedN t names np nl=checkN t):=Lib.hid (if_pos h0)
  have h0b:(checkN t != 0)=true:=by simpa using h0
  go_wp2_with fail
  go_ret
  exact ⟨by rw [Hr.out];rfl,HcX.out.trans1 Hc1.out⟩
end
theorem lcheck_ok {np nl:Nat} (h:(lcheckN np nl==0)=true):0 < nl∧np+nl≤4096:=by
 have h:=beq_iff_eq.1 h
 unfold lcheckN at h
 split at h
 ·cases h
 ·omega
theorem mem_compactUpTo {α : Type} [Inhabited α] [DecidableEq α] (d:Array α):∀ m j,j < m→d[j]!∈Lib.compactUpTo d m
 | 0,j,h=>absurd h (Nat.not_lt_zero j)
 | m+1,j,h=>by
   rw [Lib.compactUpTo_succ,List.mem_append]
   by_cases hj:j < m
   ·exact Or.inl (mem_compactUpTo d m j hj)
   ·obtain rfl:j=m:=by omega
    by_cases hk:Lib.keeps d j=true
    ·right;rw [hk];simp
    ·left
     have hk2:¬ (j=0∨d[j]!≠d[j - 1]!):=fun h=>hk (by unfold Lib.keeps;exact decide_eq_true h)
     rw [not_or] at hk2
     rw [Decidable.not_not.1 hk2.2]
     exact mem_compactUpTo d j (j - 1) (by omega)
theorem mem_compact {α : Type} [Inhabited α] [DecidableEq α] {l:List α} {x : α} (h:x∈l):x∈Lib.compact l:=by
 obtain ⟨j,hj,rfl⟩:=List.mem_iff_getElem.1 h
 have h2:=mem_compactUpTo l.toArray l.length j hj
 rw [getElem!_pos l.toArray j (by simpa using hj)] at h2
 unfold Lib.compact
 simpa using h2
theorem names_in {t:T} {names:List (List UInt8)} (h:∀ x∈namesT t,x∈names):NamesIn names t:=fun u hu hk=>h _ (mem_compact (List.mem_mergeSort.2 (List.mem_map.2 ⟨u,List.mem_filter.2 ⟨hu,by simp [hk]⟩,rfl⟩)))
theorem checkedN_zero {t:T} {names:List (List UInt8)} {np nl:Nat} (h:checkedN t names np nl=0):checkN t=0∧names.length≤60∧(∀ x∈namesT t,x∈names)∧lcheckN np nl=0:=by
 unfold checkedN at h
 by_cases h0:checkN t=0
 ·rw [if_neg (by simp [h0])] at h
  split at h
  ·cases h
  ·split at h
   ·cases h
   ·split at h
    ·cases h
    ·split at h
     ·cases h
     ·rename_i a b c d
      exact ⟨h0,by omega,Decidable.not_not.1 d,h⟩
 ·rw [if_pos h0] at h
  exact absurd h h0
def tabRow (t:T) (names:List (List UInt8)) (P L:List Int):List Bool:=whereT (nameRow names (P++L)) P.length (P.length+L.length) t
def TabPost (t:T) (names:List (List UInt8)) (P L:List Int) (w:World) (e:Ending) (w':World):Prop :=
 Chg Nob w w'∧((checkedN t names P.length L.length=0∧∃ g,w.heap.size≤g∧e = .returned (.tuple #[.slice (some ⟨g,0,none⟩) (P.length+L.length) (P.length+L.length),.int .i64 0])∧BBlk w' g (tabRow t names P L))∨(checkedN t names P.length L.length≠0∧e = .returned (.tuple #[.slice none 0 0,.int .i64 (checkedN t names P.length L.length)])))
section
variable {R : Nat → Prop} {t : T} {v : Value} {w : World} {names : List (List UInt8)} {an ap al : Option Addr} {cn cp cl : Nat} {P L : List Int}
theorem table_any (ht:IsTree R w t v) (hN:sizeT t≤1000000) (hR:∀ b,R b→b < w.heap.size) (hn:Texts w (.slice an names.length cn) names) (hcn:names.length≤cn) (hl:P.length+L.length≤10000) (hP:URow w ap P) (hL:URow w al L) (hnp:ap=none→cp=0) (hnl:al=none→cl=0) :
 Calls Tryz.prog 28 #[v,.slice an names.length cn,.agg #[.slice ap P.length cp,.slice al L.length cl]] w (TabPost t names P L w):=by
 obtain ⟨ao,cap,rfl,hlen,_⟩:=ht.parts
 obtain ⟨X,hX,hcX,hb0,hb1,hsX⟩:=box_tw w (.int .i64 t.kind) (.string ⟨t.name.toArray⟩) (.slice ao t.kids.length cap) (.slice ap P.length cp) (.slice al L.length cl)
 obtain ⟨c0,c1,c2,_⟩:=cells_three hb0
 obtain ⟨d0,d1,_⟩:=cell_two hb1
 rw [hX] at c0 c1 c2 d0 d1
 have hp:Calls Tryz.prog 58 #[.agg #[.int .i64 t.kind,.string ⟨t.name.toArray⟩,.slice ao t.kids.length cap],.slice an names.length cn,.agg #[.slice ap P.length cp,.slice al L.length cl]] X fun e w'=>e = .returned (.int .i64 (checkedN t names P.length L.length))∧Chg Nob X w':=checked_any (ht.nob hcX) hN (fun b hb=>by have:=hR b hb;have:=hcX.size;omega) (hn.nob hcX) hcn hl
 have HcX:=Lib.hid hcX
 have Hb0:=Lib.hid hb0
 have Hb1:=Lib.hid hb1
 have HsX:=Lib.hid hsX
 have Hp:=Lib.hid hp
 have Hn:=Lib.hid (hn.nob hcX)
 have Ht:=Lib.hid (ht.nob hcX)
 have HP:=Lib.hid (hP.nob hcX)
 have HL:=Lib.hid (hL.nob hcX)
 have HR:Hid (∀ b,R b→b < X.heap.size):=Lib.hid (fun b hb=>by have:=hR b hb;have:=hcX.size;omega)
 clear ht hR hn hcX hb0 hb1 hsX hp hP hL
 obtain ⟨code,hcode⟩:∃ code,code=checkedN t names P.length L.length:=⟨_,rfl⟩
 have Hcode:=Lib.hid hcode
 rw [← hcode] at Hp
 clear hcode
 go_enter Tryz.func28,Tryz.ntmps28
 go_wp2_with fail
 rw [← hX]
 clear hX c0 c1 c2 d0 d1
 (with_reducible refine Hp.out.mono ?_)
 rintro e w1 ⟨rfl,hc1⟩
 have Hc1:=Lib.hid hc1
 clear hc1 Hp
 cases h0:(code==0) with
 | false =>
   have hne:(code != 0)=true:=by rw [bne,h0];rfl
   go_wp2_with fail
   refine bodyPost_ret (results_tmp2 rfl _ _ _) rfl ?_
   exact ⟨HcX.out.trans1 Hc1.out,Or.inr ⟨by rw [← Hcode.out];exact beq_eq_false_iff_ne.1 h0,by rw [← Hcode.out];rfl⟩⟩
 | true =>
   have hne:(code != 0)=false:=by rw [bne,h0];rfl
   have Hz:Hid (checkedN t names P.length L.length=0):=(show checkedN t names P.length L.length=0 by rw [← Hcode.out];exact beq_iff_eq.1 h0)
   obtain ⟨d0,d1,_⟩:=cell_two (Hc1.out.at Hb1.out (fun e=>e))
   obtain ⟨c0,c1,c2,_⟩:=cells_three (Hc1.out.at Hb0.out (fun e=>e))
   obtain ⟨Y,hY,hcY,hbY,e0,e1,e2⟩:∃ Y,Y=w1.alloc (.cells #[.slice an names.length cn,.slice ap P.length cp,.slice al L.length cl,.int .i64 ((P.length:Int)+(L.length:Int))] 99)∧Chg Nob w1 Y∧TabIs Y w1.heap.size (.slice an names.length cn) ap P.length cp al L.length cl (P.length+L.length)∧Y.cell? ⟨w.heap.size,0,none⟩=some (.int .i64 t.kind)∧Y.cell? ⟨w.heap.size,1,none⟩=some (.string ⟨t.name.toArray⟩)∧Y.cell? ⟨w.heap.size,2,none⟩=some (.slice ao t.kids.length cap):=by
    have hc:Chg Nob w1 (w1.alloc (.cells #[.slice an names.length cn,.slice ap P.length cp,.slice al L.length cl,.int .i64 ((P.length:Int)+(L.length:Int))] 99)):=(Chg.refl _ _).alloc _
    exact ⟨_,rfl,hc,by unfold TabIs;rw [Int.natCast_add];exact heap_alloc_new _ _,hc.cell' c0 (fun e=>e),hc.cell' c1 (fun e=>e),hc.cell' c2 (fun e=>e)⟩
   have hcXY:=Hc1.out.trans1 hcY
   have hp:Calls Tryz.prog 59 #[.pointer (some ⟨w1.heap.size,0,none⟩),.agg #[.int .i64 t.kind,.string ⟨t.name.toArray⟩,.slice ao t.kids.length cap]] Y (WhPost (P.length+L.length) (tabRow t names P L) Y):=by
    obtain ⟨z0,z1,z2,z3⟩:=checkedN_zero Hz.out
    refine where_any z1 t (names_in z2) (checkN_zero z0).1 R Y _ (fun b hb=>by have:=HR.out b hb;have:=hcXY.size;omega) (Ht.out.nob hcXY) ⟨rfl,hbY,hl,?_,HP.out.nob hcXY,HL.out.nob hcXY,hnp,hnl,Hn.out.nob hcXY⟩
    exact (lcheck_ok (by rw [z3];rfl)).1
   have HcY:Hid (Chg Nob w Y):=Lib.hid (HcX.out.trans1 hcXY)
   clear hbY hcXY hcY c0 c1 c2 Ht HP HL Hn HR Hb0 Hb1
   rw [hY] at e0 e1 e2
   go_wp2_with fail
   rw [← hY]
   clear hY e0 e1 e2
   (with_reducible refine hp.mono ?_)
   clear hp
   rintro e w2 ⟨hc2,g,hg,rfl,hb⟩
   have Hfin:Hid (Chg Nob w w2∧w.heap.size≤g∧BBlk w2 g (tabRow t names P L)):=(show _∧_∧_ from ⟨HcY.out.trans1 hc2,by have:=HcY.out.size;omega,hb⟩)
   clear hc2 hg hb
   go_wp2_with fail
   refine bodyPost_ret (results_tmp2 rfl _ _ _) rfl ?_
   exact ⟨Hfin.out.1,Or.inl ⟨Hz.out,g,Hfin.out.2.1,rfl,Hfin.out.2.2⟩⟩
end
end Go.Proofs.YtkgfdgfhpdhhaaaGreat
