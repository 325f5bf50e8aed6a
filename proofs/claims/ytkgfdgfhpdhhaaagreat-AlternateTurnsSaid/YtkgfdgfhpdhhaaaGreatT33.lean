/- Parts of the walks and of the plain theory, the first: The reference's step: whether a move may be taken at a place. Conditions: the automaton, the word and the rows lie in the world, numbers are of 64 bits. -/
import Derived.Test.YtkgfdgfhpdhhaaaGreatT13
import Derived.Test.YtkgfdgfhpdhhaaaGreatT11
import Derived.Deep.DeepCutAuto
namespace Go.Proofs.YtkgfdgfhpdhhaaaGreat
open Go.ChangeShapes Go.WideShapes Go.RowKit
attribute [local go_sem] Oper.semAt_some
def othersR (R:List (List Bool)) (l:List Int) (n q:Nat):Bool:=l.all fun k=>k==(n:Int) || (R.getD k.toNat []).getD q false
def stepM (R:List (List Bool)) (M:List Int) (np n i:Nat) (own:Bool) (m:Mvi):Bool :=
 (hasI m.yes m.no (M.getD i 0)&&othersR R m.to n (nextN np M.length i))&&(m.to.any (fun k=>k==(n:Int))==own)
def stepB (R:List (List Bool)) (ms:List Mvi) (M:List Int) (np n i:Nat) (own:Bool):Bool:=ms.any (stepM R M np n i own)
section
variable {w : World} {ai as' ap al : Option Addr} {ci cs cp cl : Nat} {I : List (List Int)} {S : List Sti} {P L : List Int} {gr ns : Nat} {gs : List Nat} {R : List (List Bool)}
end
def walkR (A B:List Bool) (b:Bool) (np n:Nat):Nat→Nat→Bool
 | 0,p=>A.getD p false || b
 | f+1,p=>if !(A.getD p false)&&B.getD p false then walkR A B b np n f (nextN np n p) else A.getD p false
def leavesR (R:List (List Bool)) (ms:List Mvi) (M:List Int) (np n:Nat) (own:Bool):List Bool:=(List.range M.length).map fun i=>stepB R ms M np n i own
def rowR (R:List (List Bool)) (s:Sti) (M:List Int) (np n:Nat):List Bool:=(List.range M.length).map fun i=>walkR (leavesR R s.moves M np n false) (leavesR R s.moves M np n true) (!s.fin) np M.length (M.length+1) i
def rowsR (S:List Sti) (M:List Int) (np:Nat):Nat→List (List Bool)
 | 0=>[]
 | m+1=>rowsR S M np m++[rowR (rowsR S M np m) (S.getD m s0) M np m]
theorem rowsR_length (S:List Sti) (M:List Int) (np:Nat):∀ n,(rowsR S M np n).length=n
 | 0=>rfl
 | n+1=>by rw [rowsR,List.length_append,rowsR_length S M np n];rfl
theorem range_list {n:Nat} {f:Nat→Bool} {l:List Bool} (hl:l.length=n) (h:∀ q,q < n→l[q]? = some (f q)):l=(List.range n).map f:=by
 refine List.ext_getElem? (fun q=>?_)
 rcases Nat.lt_or_ge q n with hq | hq
 ·rw [h q hq,List.getElem?_map,List.getElem?_range hq];rfl
 ·rw [List.getElem?_eq_none_iff.2 (by omega),List.getElem?_eq_none_iff.2 (by rw [List.length_map,List.length_range];omega)]
set_option maxRecDepth 100000
set_option maxHeartbeats 8000000
def initP (I:List (List Int)) (S:List Sti):Prop:=S.length≤4096∧I.length≤131072∧∀ j,j < I.length→setP (I.getD j []) ((S.length:Int) - 1)
section
variable {w : World} {ai as' : Option Addr} {ci cs : Nat} {I : List (List Int)} {S : List Sti}
theorem racheck_any (hI:I.length≤2000000) (hS:S.length≤2000000) (h:LRow w ai I) (k:SRow w as' S):Calls Tryz.prog 24 #[.agg #[.slice ai I.length ci,.slice as' S.length cs]] w fun e w'=>e = .returned (.int .i64 (checkAN I S))∧Chg Nob w w':=by
 obtain ⟨X,hX,hcX,hb,hsX⟩:=box_cells w #[.slice ai I.length ci,.slice as' S.length cs] 38
 obtain ⟨c0,c1,_⟩:=cell_two hb
 have HcX:=Lib.hid hcX
 have HI:=Lib.hid (h.nob hcX)
 have HS:=Lib.hid (k.nob hcX)
 have HB:Hid (∀ W,Chg Nob X W→W.cell? ⟨w.heap.size,0,none⟩=some (.slice ai I.length ci)∧W.cell? ⟨w.heap.size,1,none⟩=some (.slice as' S.length cs)):=(show ∀ W,Chg Nob X W→_∧_ from fun W hW=>⟨hW.cell' c0 (fun e=>e),hW.cell' c1 (fun e=>e)⟩)
 obtain ⟨b1,hb1⟩:∃ b1,b1=decide (S.length≤4096):=⟨_,rfl⟩
 obtain ⟨b2,hb2⟩:∃ b2,b2=decide (I.length≤131072):=⟨_,rfl⟩
 have q1:decide ((S.length:Int)≤4096)=b1:=by rw [hb1];exact decide_eq_decide.2 (by omega)
 have q2:decide ((I.length:Int)≤131072)=b2:=by rw [hb2];exact decide_eq_decide.2 (by omega)
 have Hfb:Hid ((b1&&b2)=true↔(S.length≤4096∧I.length≤131072)):=(show _↔_ by rw [Bool.and_eq_true,hb1,hb2,decide_eq_true_eq,decide_eq_true_eq])
 have q1n:=hb1.symm
 have q2n:=hb2.symm
 obtain ⟨fb0,hfb0⟩:∃ fb0,fb0=(b1&&b2):=⟨_,rfl⟩
 have Hfb0:Hid (fb0=true↔(S.length≤4096∧I.length≤131072)):=(show _↔_ by rw [hfb0];exact Hfb.out)
 rw [hX] at c0 c1
 clear h k hb hcX hsX hb1 hb2
 go_enter Tryz.func24,Tryz.ntmps24
 go_upto_region 1 with fail
 rw [← hX]
 rw [← hX] at c0 c1
 clear hX
 go_cut [3] from 10 to 20 (fun fv W=>fv = .bool fb0∧Hid (Chg Nob X W))
 case first =>
  cases b1 with
  | true =>
    go_wp2_with fail
    go_meet
    case rel=>exact ⟨by rw [hfb0];rfl,Chg.refl _ _⟩
  | false =>
    go_wp2_with fail
    go_meet
    case rel=>exact ⟨by rw [hfb0];rfl,Chg.refl _ _⟩
 case rest =>
  obtain ⟨rfl,Hc1⟩:=hcut
  clear hfb0 q1 q2 q1n q2n Hfb c0 c1
  go_step
  go_step
  go_cut [3,4] from 20 to 40 (fun fv _ W=>∃ fb:Bool,fv = .bool fb∧Hid (fb=true↔initP I S)∧Hid (Chg Nob X W))
  case rest =>
   obtain ⟨fb,rfl,Hf0,Hc2⟩:=hcut
   go_wp2_with fail
   go_loopw [3,5,6] (fun fv nv iv wr=>∃ (i n:Nat) (fb:Bool),iv = .int .i64 (i:Int)∧nv = .int .i64 (n:Int)∧fv = .bool fb∧i≤S.length∧Hid (n=sumN (S.take i))∧Hid (fb=true↔(initP I S∧(∀ j,j < i→stateP (S.getD j s0) j)∧n≤131072))∧Hid (Chg Nob X wr)) (fun _ _ iv _=>S.length - (intOf iv).toNat)
   case atStart=>exact ⟨0,0,fb,rfl,rfl,rfl,Nat.zero_le _,(by show 0=sumN (S.take 0);rfl),(show fb=true↔_ from ⟨fun h=>⟨Hf0.out.1 h,fun j hj=>absurd hj (Nat.not_lt_zero j),Nat.zero_le _⟩,fun h=>Hf0.out.2 h.1⟩),Hc2⟩
   case round =>
    obtain ⟨i,n,fb,rfl,rfl,rfl,hi,Hn,Hf,Hc⟩:=hrel
    obtain ⟨c0,c1⟩:=HB.out wr Hc.out
    have fin:∀ fb:Bool,(fb=false∨i=S.length)→(fb=true↔(initP I S∧(∀ j,j < i→stateP (S.getD j s0) j)∧n≤131072))→checkAN I S=if fb then 0 else 110:=fun fb he hf=>by
     unfold checkAN
     by_cases hfine:fineA I S
     ·have h1:fb=true:=hf.2 ⟨⟨hfine.1,hfine.2.1,hfine.2.2.1⟩,fun j hj=>hfine.2.2.2.1 j (by omega),by
       rw [Hn.out]
       have h5:=hfine.2.2.2.2
       have h6:sumN (S.take i)≤sumN S:=by
        have e:sumN S=sumN (S.take i)+sumN (S.drop i):=by
         unfold sumN
         rw [← List.sum_append,← List.map_append,List.take_append_drop]
        omega
       omega⟩
      rw [if_pos hfine,h1];rfl
     ·rw [if_neg hfine]
      rcases he with rfl | rfl
      ·rfl
      ·cases fb with
       | false=>rfl
       | true =>
         obtain ⟨h1,h2,h3⟩:=hf.1 rfl
         exact absurd ⟨h1.1,h1.2.1,h1.2.2,h2,by rw [Hn.out,List.take_length] at h3;exact h3⟩ hfine
    by_cases hlt:i < S.length
    ·have hii:(i:Int) < (S.length:Int):=by omega
     have hiid:decide ((i:Int) < (S.length:Int))=true:=decide_eq_true hii
     cases fb with
     | true =>
       obtain ⟨s,hs⟩:∃ s,S[i]? = some s:=⟨_,List.getElem?_eq_getElem hlt⟩
       obtain ⟨b,o,am,cm,rfl,hf,hmv,hml,hmr⟩:=HS.out i s hs
       have hsd:S.getD i s0=s:=by rw [List.getD_eq_getElem?_getD,hs];rfl
       have Hsd:=Lib.hid hsd
       have Hn2:Hid (n+s.moves.length=sumN (S.take (i+1))):=(show n+s.moves.length=sumN (S.take (i+1)) by rw [sumN_take S hs,Hn.out])
       obtain ⟨hiP,hst,hn1⟩:=Hf.out.1 (by trivial)
       have HiP:=Lib.hid hiP
       have Hst:=Lib.hid hst
       have hi0:(0:Int)≤(i:Int):=by omega
       have hmv2:=Hc.out.cell' hmv (fun e=>e)
       have Hmr:=Lib.hid (hmr.nob Hc.out)
       obtain ⟨fb1,hfb1⟩:∃ fb1,fb1=decide (n+s.moves.length≤131072):=⟨_,rfl⟩
       have q1:decide ((n:Int)+(s.moves.length:Int)≤131072)=fb1:=by rw [hfb1];exact decide_eq_decide.2 (by omega)
       have q1n:=hfb1.symm
       have Hfb1:Hid (fb1=true↔n+s.moves.length≤131072):=(show fb1=true↔_ by rw [hfb1,decide_eq_true_eq])
       clear hf hmv hmr hs hsd fin Hf hiP hst hfb1
       obtain ⟨W1,hW1⟩:∃ W,W=wr:=⟨_,rfl⟩
       subst hW1
       go_wp2_with fail
       clear q1 q1n
       go_loopw [3,8] (fun fv kv wr'=>∃ (k:Nat) (fb:Bool),kv = .int .i64 (k:Int)∧fv = .bool fb∧k≤s.moves.length∧Hid (fb=true↔(n+s.moves.length≤131072∧∀ j,j < k→moveP (s.moves.getD j m0) i))∧Hid (Chg Nob W1 wr')) (fun _ kv _=>s.moves.length - (intOf kv).toNat)
       case atStart=>exact ⟨0,fb1,rfl,rfl,Nat.zero_le _,(show fb1=true↔_ from ⟨fun h=>⟨Hfb1.out.1 h,fun j hj=>absurd hj (Nat.not_lt_zero j)⟩,fun h=>Hfb1.out.2 h.1⟩),Chg.refl _ _⟩
       case round =>
        obtain ⟨k,fb,rfl,rfl,hk,Hf,HcY⟩:=hrel
        have next:∀ fb:Bool,(fb=false∨k=s.moves.length)→(fb=true↔(n+s.moves.length≤131072∧∀ j,j < k→moveP (s.moves.getD j m0) i))→(fb=true↔(initP I S∧(∀ j,j < i+1→stateP (S.getD j s0) j)∧n+s.moves.length≤131072)):=fun fb he hf=>by
         have hsucc:(∀ j,j < i+1→stateP (S.getD j s0) j)↔stateP s i:=by
          refine ⟨fun h=>by have:=h i (by omega);rw [Hsd.out] at this;exact this,fun h j hj=>?_⟩
          by_cases e:j=i
          ·subst e;rw [Hsd.out];exact h
          ·exact Hst.out j (by omega)
         rw [hsucc]
         rcases he with rfl | rfl
         ·exact ⟨fun h=>(Bool.false_ne_true h).elim,fun h=>hf.2 ⟨h.2.2,fun j hj=>h.2.1 j (by omega)⟩⟩
         ·exact ⟨fun h=>⟨HiP.out,(hf.1 h).2,(hf.1 h).1⟩,fun h=>hf.2 ⟨h.2.2,h.2.1⟩⟩
        by_cases hkl:k < s.moves.length
        ·have hki:(k:Int) < (s.moves.length:Int):=by omega
         have hkid:decide ((k:Int) < (s.moves.length:Int))=true:=decide_eq_true hki
         cases fb with
         | true =>
           obtain ⟨m,hm⟩:∃ m,s.moves[k]? = some m:=⟨_,List.getElem?_eq_getElem hkl⟩
           obtain ⟨b2,o2,at',ct,rfl,hy,hno,hto,htl,htr⟩:=Hmr.out k m hm
           have hmd:s.moves.getD k m0=m:=by rw [List.getD_eq_getElem?_getD,hm];rfl
           have Hmd:=Lib.hid hmd
           have hk0:(0:Int)≤(k:Int):=by omega
           have hto2:=HcY.out.cell' hto (fun e=>e)
           have HY:Hid (∀ V,Chg Nob W1 V→V.cell? ⟨b2,o2+k * 3,none⟩=some (.int .u64 m.yes)∧V.cell? ⟨b2,o2+k * 3+1,none⟩=some (.int .u64 m.no)):=(show ∀ V,Chg Nob W1 V→_∧_ from fun V hV=>⟨hV.cell' hy (fun e=>e),hV.cell' hno (fun e=>e)⟩)
           have hp:=rset_any (w:=wr) ct htl (htr.nob HcY.out) (i:Int)
           clear hy hno hto htr hm hmd next
           go_wp2_with fail
           (with_reducible refine hp.mono ?_)
           clear hp hto2
           rintro e w5 ⟨rfl,hc5⟩
           have Hc5:Hid (Chg Nob W1 w5):=Lib.hid (HcY.out.trans1 hc5)
           obtain ⟨hy2,hno2⟩:=HY.out w5 Hc5.out
           have step:∀ x:Bool,x=decide (moveP m i)→Hid (x=true↔(n+s.moves.length≤131072∧∀ j,j < k+1→moveP (s.moves.getD j m0) i)):=fun x hx=>Lib.hid (by
            have h3:=Hf.out.1 (by trivial)
            rw [hx,decide_eq_true_eq]
            refine ⟨fun h=>⟨h3.1,fun j hj=>?_⟩,fun h=>by have:=h.2 k (by omega);rw [Hmd.out] at this;exact this⟩
            by_cases e:j=k
            ·subst e;rw [Hmd.out];exact h
            ·exact h3.2 j (by omega))
           clear hc5
           obtain ⟨z,hz⟩:∃ z,z=bits .and .u64 m.yes m.no:=⟨_,rfl⟩
           have hzz:=hz.symm
           have Hz:=Lib.hid hz
           clear hz
           cases hd:decide (setP m.to (i:Int)) with
           | false =>
             have Hs2:=step false (by symm;exact decide_eq_false (fun h=>of_decide_eq_false hd h.2))
             clear step
             go_wp2_with fail
             go_quiet (fail)
             go_wp2_with fail
             go_roundw
             case rel=>exact ⟨k+1,false,by go_num,rfl,by omega,Hs2,Hc5.out.drewN _⟩
             case measure=>simp [intOf];omega
           | true =>
             cases hz1:(z==0) with
             | false =>
               have Hs2:=step false (by symm;exact decide_eq_false (fun h=>beq_eq_false_iff_ne.1 hz1 (Hz.out.trans h.1)))
               have hz1d:decide (z=0)=false:=decide_eq_false (beq_eq_false_iff_ne.1 hz1)
               clear step
               go_wp2_with fail
               go_quiet (fail)
               go_wp2_with fail
               go_roundw
               case rel=>exact ⟨k+1,false,by go_num,rfl,by omega,Hs2,Hc5.out.drewN _⟩
               case measure=>simp [intOf];omega
             | true =>
               have Hs2:=step true (by symm;exact decide_eq_true ⟨by rw [← Hz.out];exact beq_iff_eq.1 hz1,of_decide_eq_true hd⟩)
               have hz1d:decide (z=0)=true:=decide_eq_true (beq_iff_eq.1 hz1)
               clear step
               go_wp2_with fail
               go_quiet (fail)
               go_wp2_with fail
               go_roundw
               case rel=>exact ⟨k+1,true,by go_num,rfl,by omega,(show (true=true)↔_ from ⟨fun _=>Hs2.out.1 trivial,fun _=>rfl⟩),Hc5.out.drewN _⟩
               case measure=>simp [intOf];omega
         | false =>
           have Hf2:=Lib.hid (next false (Or.inl rfl) Hf.out)
           have Hcc:=Lib.hid (Hc.out.trans1 HcY.out)
           clear next Hf
           go_wp2_with fail
           go_roundw
           case rel=>exact ⟨i+1,n+s.moves.length,false,by go_num,by go_num,rfl,by omega,Hn2,Hf2,Hcc⟩
           case measure=>simp [intOf];omega
        ·have hke:k=s.moves.length:=by omega
         have Hf2:=Lib.hid (next fb (Or.inr hke) Hf.out)
         have Hcc:=Lib.hid (Hc.out.trans1 HcY.out)
         have hki:¬ (k:Int) < (s.moves.length:Int):=by omega
         have hkid:decide ((k:Int) < (s.moves.length:Int))=false:=decide_eq_false hki
         have hkin:decide (k < s.moves.length)=false:=decide_eq_false hkl
         clear next Hf
         go_wp2_with fail
         go_roundw
         case rel=>exact ⟨i+1,n+s.moves.length,fb,by go_num,by go_num,rfl,by omega,Hn2,Hf2,Hcc⟩
         case measure=>simp [intOf];omega
     | false =>
       have Hr:=Lib.hid (fin false (Or.inl rfl) Hf.out)
       clear fin Hf
       go_wp2_with fail
       go_ret
       exact ⟨by rw [Hr.out];rfl,HcX.out.trans1 Hc.out⟩
    ·have hie:i=S.length:=by omega
     have Hr:=Lib.hid (fin fb (Or.inr hie) Hf.out)
     have hii:¬ (i:Int) < (S.length:Int):=by omega
     have hiid:decide ((i:Int) < (S.length:Int))=false:=decide_eq_false hii
     have hiin:decide (i < S.length)=false:=decide_eq_false hlt
     clear fin Hf
     cases fb with
     | true =>
       go_wp2_with fail
       go_ret
       exact ⟨by rw [Hr.out];rfl,HcX.out.trans1 Hc.out⟩
     | false =>
       go_wp2_with fail
       go_ret
       exact ⟨by rw [Hr.out];rfl,HcX.out.trans1 Hc.out⟩
  go_wp2_with fail
  go_loopw [3,4] (fun fv iv wr=>∃ (i:Nat) (fb:Bool),iv = .int .i64 (i:Int)∧fv = .bool fb∧i≤I.length∧Hid (fb=true↔(S.length≤4096∧I.length≤131072∧∀ j,j < i→setP (I.getD j []) ((S.length:Int) - 1)))∧Hid (Chg Nob X wr)) (fun _ iv _=>I.length - (intOf iv).toNat)
  case atStart=>exact ⟨0,fb0,rfl,rfl,Nat.zero_le _,(show fb0=true↔_ from ⟨fun h=>⟨(Hfb0.out.1 h).1,(Hfb0.out.1 h).2,fun j hj=>absurd hj (Nat.not_lt_zero j)⟩,fun h=>Hfb0.out.2 ⟨h.1,h.2.1⟩⟩),Hc1⟩
  case round =>
   obtain ⟨i,fb,rfl,rfl,hi,Hf,Hc⟩:=hrel
   obtain ⟨c0,c1⟩:=HB.out wr Hc.out
   have rest:∀ (i:Nat) (fb:Bool),i≤I.length→(fb=false∨i=I.length)→(fb=true↔(S.length≤4096∧I.length≤131072∧∀ j,j < i→setP (I.getD j []) ((S.length:Int) - 1)))→(fb=true↔initP I S):=fun i fb hi he hf=>by
    rcases he with rfl | rfl
    ·exact ⟨fun h=>(Bool.false_ne_true h).elim,fun h=>hf.2 ⟨h.1,h.2.1,fun j hj=>h.2.2 j (by omega)⟩⟩
    ·exact hf
   by_cases hlt:i < I.length
   ·have hii:(i:Int) < (I.length:Int):=by omega
    cases fb with
    | true =>
      obtain ⟨l,hl⟩:∃ l,I[i]? = some l:=⟨_,List.getElem?_eq_getElem hlt⟩
      obtain ⟨a,at',ct,rfl,hcell,hll,hlr⟩:=HI.out i l hl
      have hld:I.getD i []=l:=by rw [List.getD_eq_getElem?_getD,hl];rfl
      have Hld:=Lib.hid hld
      have hi0:(0:Int)≤(i:Int):=by omega
      have hcell2:=Hc.out.cell' hcell (by unfold Addr.add;split <;> exact fun e=>e)
      have hcellX:=hcell
      have hp:∀ V,Chg Nob X V→Calls Tryz.prog 56 #[.slice at' l.length ct,.int .i64 ((S.length:Int) - 1)] V fun e w'=>e = .returned (.bool (decide (setP l ((S.length:Int) - 1))))∧Chg Nob V w':=fun V hV=>rset_any ct hll (hlr.nob hV) ((S.length:Int) - 1)
      clear hcell hl hld hll hlr rest
      have Hp:=Lib.hid hp
      have HS5:Hid (∀ w',Chg Nob X w'→w'.cell? ⟨w.heap.size,0,none⟩=some (.slice (some a) I.length ci)∧w'.cell? ⟨w.heap.size,1,none⟩=some (.slice as' S.length cs)∧w'.cell? (a.add i)=some (.slice at' l.length ct)):=Lib.hid (fun w' h=>⟨(HB.out w' h).1,(HB.out w' h).2,h.cell' hcellX (by unfold Addr.add;split <;> exact fun e=>e)⟩)
      clear hp hcellX
      go_wp2_with fail
      refine wp_region_free (fun _=>true) (fun w'=>w'.cell? ⟨w.heap.size,0,none⟩=some (.slice (some a) I.length ci)∧w'.cell? ⟨w.heap.size,1,none⟩=some (.slice as' S.length cs)∧w'.cell? (a.add i)=some (.slice at' l.length ct)) (by kernel_rfl) ⟨c0,c1,hcell2⟩ (fun hHeld=>?_)
      refine tkG 0 hHeld ?_
      refine tkG 1 hHeld ?_
      refine tkG 2 hHeld ?_
      refine tkG 3 hHeld ?_
      refine tkG 4 hHeld ?_
      refine tkG 5 hHeld ?_
      refine tkG 6 hHeld ?_
      refine tkG 7 hHeld ?_
      refine tkB 8 hHeld ?_
      refine rdG 9 fun K hK=>?_
      go_simp
      (with_reducible refine (Hp.out _ (Hc.out.drew)).mono ?_)
      rintro e w3 ⟨rfl,hc3⟩
      have Hc3:Hid (Chg Nob X w3):=Lib.hid ((Hc.out.drew).trans1 hc3)
      clear hc3
      refine hK.out _ _ (fun _=>HS5.out _ Hc3.out) ?_
      clear hK K
      try simp only [Act.put]
      refine tkG 10 (HS5.out _ Hc3.out) ?_
      refine wpAnyG_done (by kernel_rfl) ?_ _
      go_simp
      clear hHeld c0 c1 hcell2 HS5 Hp
      obtain ⟨fb2,hfb2⟩:∃ fb2,fb2=decide (setP l ((S.length:Int) - 1)):=⟨_,rfl⟩
      have Hf2:Hid (fb2=true↔(S.length≤4096∧I.length≤131072∧∀ j,j < i+1→setP (I.getD j []) ((S.length:Int) - 1))):=(show fb2=true↔_ by
       rw [hfb2,decide_eq_true_eq]
       have h3:=Hf.out.1 (by trivial)
       refine ⟨fun h=>⟨h3.1,h3.2.1,fun j hj=>?_⟩,fun h=>by have:=h.2.2 i (by omega);rw [Hld.out] at this;exact this⟩
       by_cases e:j=i
       ·subst e;rw [Hld.out];exact h
       ·exact h3.2.2 j (by omega))
      rw [← hfb2]
      clear hfb2
      go_wp2_with fail
      go_roundw
      case rel=>exact ⟨i+1,fb2,by go_num,rfl,by omega,Hf2,Hc3⟩
      case measure=>simp [intOf];omega
    | false =>
      have Hin:=Lib.hid (rest i false hi (Or.inl rfl) Hf.out)
      clear rest Hf
      go_wp2_with fail
      go_meet
      case rel=>exact ⟨false,rfl,Hin,Hc⟩
   ·have hie:i=I.length:=by omega
    have Hin:=Lib.hid (rest i fb hi (Or.inr hie) Hf.out)
    have hii:¬ (i:Int) < (I.length:Int):=by omega
    have hiid:decide ((i:Int) < (I.length:Int))=false:=decide_eq_false hii
    have hiin:decide (i < I.length)=false:=decide_eq_false hlt
    clear rest Hf
    go_wp2_with fail
    go_meet
    case rel=>exact ⟨fb,rfl,Hin,Hc⟩
end
end Go.Proofs.YtkgfdgfhpdhhaaaGreat
