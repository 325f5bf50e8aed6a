/- Parts of the walks and of the plain theory, the first: Regions that draw their order: a read is taken first under a condition that the operations behind it need not keep. Conditions: as the theorems state. -/
import Derived.Test.YtkgfdgfhpdhhaaaGreatT10
import Derived.Test.YtkgfdgfhpdhhaaaGreatT08
import Derived.Test.YtkgfdgfhpdhhaaaGreatT02
import Derived.Deep.RegionHeld3
import Derived.BigQuiet
import Derived.Test.YtkgfdgfhpdhhaaaGreatT01
import Derived.Laws.MakeOwn
namespace Go.Proofs.YtkgfdgfhpdhhaaaGreat
section
variable {P : Program} {md : Region.Mode} {ops : Array Oper} {Q : Exit → Act → World → Prop} {F : Nat → Bool} {S : World → Prop}
def wpAnyG (P:Program) (md:Region.Mode) (ops:Array Oper) (Q:Exit→Act→World→Prop) (F:Nat→Bool) (S:World→Prop):Nat→Array Bool→Act→World→Prop
 | 0,listed,a,w=>Region.ready md ops listed=[]∧Q .normal a w
 | fuel+1,listed,a,w =>
   (Region.ready md ops listed=[]→Q .normal a w) ∧
   ∀ i∈Region.ready md ops listed,wpOp P ops Q i (fun a' w'=>(F i=true→S w')∧wpAnyG P md ops Q F S fuel (listed.setIfInBounds i true) a' w') a w
theorem wpAny_of_free:∀ (fuel:Nat) (listed:Array Bool) (a:Act) (w:World),wpAnyG P md ops Q F S fuel listed a w→wpAny P md ops Q fuel listed a w
 | 0,_,_,_,h=>h
 | fuel+1,_,_,_,h=>⟨h.1,fun i hi=>wpOp_mono (fun a' w' h'=>wpAny_of_free fuel _ a' w' h'.2) (h.2 i hi)⟩
def waitsB (md:Region.Mode) (ops:Array Oper) (F:Nat→Bool) (i:Nat):Bool :=
 (List.range ops.size).all fun j=>F j || match ops[j]? with
  | some oj=>oj.after.any (fun e=>Region.binds md e&&e.on==i)
  | none=>true
theorem waitsB_spec {i j:Nat} {oj:Oper} (h:waitsB md ops F i=true) (hj:ops[j]? = some oj) (hF:F j=false):∃ e∈oj.after,Region.binds md e=true∧e.on=i:=by
 unfold waitsB at h
 rw [List.all_eq_true] at h
 have h1:=h j (List.mem_range.2 (Array.getElem?_eq_some_iff.1 hj).1)
 rw [hF,hj,Bool.false_or] at h1
 obtain ⟨e,he,hb⟩:=Array.any_eq_true'.1 h1
 rw [Bool.and_eq_true,beq_iff_eq] at hb
 exact ⟨e,he,hb⟩
theorem wpAnyG_first {i:Nat} {oi:Oper} {v:Value} (hi:ops[i]? = some oi) (hsel:∀ (j:Nat) (o:Oper) cs b,ops[j]? = some o→o.op ≠ .select cs b)
 (hQ:∀ c a w,Q (.panic c) (a.put oi.dst v) w→Q (.panic c) a w) (hw:waitsB md ops F i=true) :
 ∀ (fuel:Nat) (listed:Array Bool) (a:Act) (w:World),
   (∀ j oj,ops[j]? = some oj→j≠i→listed.getD j true=false→(∀ e∈oj.after,Region.binds md e=true→e.on≠i)→oi.apart ops oj=true) →
   i∈Region.ready md ops listed→YieldsIf P ops S oi v a→S w →
   wpAnyG P md ops Q F S fuel (listed.setIfInBounds i true) (a.put oi.dst v) w→wpAnyG P md ops Q F S (fuel+1) listed a w:=by
 intro fuel
 induction fuel with
 | zero =>
   intro listed a w _ hr hy hS H
   refine ⟨fun h=>(by rw [h] at hr;cases hr),fun j hj=>?_⟩
   by_cases hji:j=i
   ·subst hji;exact hy.wpOp hi hS ⟨fun _=>hS,H⟩
   ·have:=ready_mono hj hji
    rw [H.1] at this
    cases this
 | succ fuel ih =>
   intro listed a w hfree hr hy hS H
   refine ⟨fun h=>(by rw [h] at hr;cases hr),fun j hj=>?_⟩
   by_cases hji:j=i
   ·subst hji;exact hy.wpOp hi hS ⟨fun _=>hS,H⟩
   ·have h1:=H.2 j (ready_mono hj hji)
    obtain ⟨hjun,oj,hoj,hall⟩:=mem_ready.1 hj
    have hnot:∀ e∈oj.after,Region.binds md e=true→e.on≠i:=fun e he hb heq=>by
     have h1:=hall e he hb
     have h0:=(mem_ready.1 hr).1
     rw [heq] at h1
     rcases Nat.lt_or_ge i listed.size with h' | h'
     ·simp [h'] at h0 h1;rw [h0] at h1;cases h1
     ·simp [Array.getElem?_eq_none h'] at h1
    have hF:F j=true:=by
     cases hF:F j with
     | true=>rfl
     | false =>
       obtain ⟨e,he,hb,heq⟩:=waitsB_spec hw hoj hF
       exact absurd heq (hnot e he hb)
    have h2:=wpOp_putIf hoj (hfree j oj hoj hji hjun hnot) (fun cs b=>hsel i oi cs b hi) (fun cs b=>hsel j oj cs b hoj) hQ hy h1
    have hfree':∀ k ok,ops[k]? = some ok→k≠i→(listed.setIfInBounds j true).getD k true=false →
     (∀ e∈ok.after,Region.binds md e=true→e.on≠i)→oi.apart ops ok=true:=fun k ok hk hki hun hno=>by
     refine hfree k ok hk hki ?_ hno
     by_cases hjk:j=k
     ·subst hjk;exact hjun
     ·rw [getD_set_ne true hjk] at hun;exact hun
    refine wpOp_mono (fun a' w' h3=>⟨fun _=>h3.2.1 hF,ih (listed.setIfInBounds j true) a' w' hfree' (ready_mono hr (Ne.symm hji)) h3.1 (h3.2.1 hF) ?_⟩) h2
    rw [Array.setIfInBounds_comm _ _ hji]
    exact h3.2.2
theorem wpAnyG_take {i:Nat} {oi:Oper} {v:Value} {fuel:Nat} {listed:Array Bool} {a:Act} {w:World} (hi:ops[i]? = some oi)
 (hs:(Region.noSelect ops&&waitsB md ops F i&&Region.free md ops listed i&&(Region.ready md ops listed).contains i)=true)
 (hQ:∀ c a w,Q (.panic c) (a.put oi.dst v) w→Q (.panic c) a w) (hy:YieldsIf P ops S oi v a) (hS:S w)
 (h:wpAnyG P md ops Q F S fuel (listed.setIfInBounds i true) (a.put oi.dst v) w):wpAnyG P md ops Q F S (fuel+1) listed a w:=by
 simp only [Bool.and_eq_true] at hs
 exact wpAnyG_first hi (Region.noSelect_spec hs.1.1.1) hQ hs.1.1.2 fuel listed a w (Region.free_spec hi hs.1.2) (by simpa using hs.2) hy hS h
theorem wpAnyG_done {listed:Array Bool} {a:Act} {w:World} (hr:Region.ready md ops listed=[]) (h:Q .normal a w):∀ fuel,wpAnyG P md ops Q F S fuel listed a w
 | 0=>⟨hr,h⟩
 | _+1=>⟨fun _=>h,by rw [hr];simp⟩
def AllReadyG (P:Program) (md:Region.Mode) (ops:Array Oper) (Q:Exit→Act→World→Prop) (F:Nat→Bool) (S:World→Prop) (fuel:Nat) (listed:Array Bool) (a:Act) (w:World) (rs:List Nat):Prop :=
 ∀ i∈rs,wpOp P ops Q i (fun a' w'=>(F i=true→S w')∧wpAnyG P md ops Q F S fuel (listed.setIfInBounds i true) a' w') a w
theorem AllReadyG.nil {fuel:Nat} {listed:Array Bool} {a:Act} {w:World}:AllReadyG P md ops Q F S fuel listed a w []:=fun _ h=>by cases h
theorem AllReadyG.cons {fuel:Nat} {listed:Array Bool} {a:Act} {w:World} {i:Nat} {o:Oper} {rs:List Nat} (ho:ops[i]? = some o)
 (h:∀ K':Act→World→Prop,Shut (∀ a w,(F i=true→S w)→wpAnyG P md ops Q F S fuel (listed.setIfInBounds i true) a w→K' a w)→if Region.wanted o (yielded ops a.tmps)=true then Oper.wp P o a w K' Q else K' (a.put o.dst undef) w)
 (hs:AllReadyG P md ops Q F S fuel listed a w rs):AllReadyG P md ops Q F S fuel listed a w (i::rs):=fun j hj=>by
 rcases List.mem_cons.1 hj with rfl | hj
 ·exact wpOp_step ho (fun K' hK=>h K' (fun a w hS hW=>hK a w ⟨hS,hW⟩))
 ·exact hs j hj
theorem wpAnyG_ready {rs:List Nat} {fuel:Nat} {listed:Array Bool} {a:Act} {w:World} (hr:Region.ready md ops listed=rs) (hne:rs≠[])
 (h:AllReadyG P md ops Q F S fuel listed a w rs):wpAnyG P md ops Q F S (fuel+1) listed a w:=⟨fun h0=>absurd (hr ▸ h0) hne,hr ▸ h⟩
theorem wp_region_free (F:Nat→Bool) (S:World→Prop) {id:Nat} {a:Act} {w:World} (hm:P.follows .mixedOrders=true) (hS:S w.drew)
 (h:S w.drew→wpAnyG P .any ops Q F S ops.size (Array.replicate ops.size false) a w.drew):(Code.region id ops true).wp P Q a w :=
 wp_region_any hm (wpAny_of_free _ _ _ _ (h hS))
end
attribute [local go_sem] Oper.semAt_some
section
variable {P : Program} {md : Region.Mode} {ops : Array Oper} {Q : Exit → Act → World → Prop} {F : Nat → Bool} {S : World → Prop}
theorem tkG (i:Nat) {oi:Oper} {v:Value} {fuel:Nat} {listed l':Array Bool} {a a':Act} {w:World} (hS:S w) (h:wpAnyG P md ops Q F S fuel l' a' w) 
 (hi:ops[i]? = some oi:=by rfl)
 (hs:(Region.noSelect ops&&waitsB md ops F i&&Region.free md ops listed i&&(Region.ready md ops listed).contains i)=true:=by kernel_rfl)
 (hQ:∀ c a w,Q (.panic c) (a.put oi.dst v) w→Q (.panic c) a w:=by exact fun _ _ _ h=>h)
 (hw:Region.wanted oi (yielded ops a.tmps)=true:=by kernel_rfl)
 (hy:∀ w,S w→(execOp a.eval oi).run P w = .ok (.value v) w:=by intro _ hSw;go_simp;(try with_reducible rfl))
 (hl:listed.setIfInBounds i true=l':=by rfl)
 (ha:a.put oi.dst v=a':=by simp only [Act.put,List.setIfInBounds_toArray];rfl)
  : wpAnyG P md ops Q F S (fuel+1) listed a w:=by subst hl ha;exact wpAnyG_take hi hs hQ (.inl ⟨hw,hy⟩) hS h
theorem tkB (i:Nat) {oi:Oper} {v:Value} {fuel:Nat} {listed l':Array Bool} {a a':Act} {w:World} (hS:S w) (h:wpAnyG P md ops Q F S fuel l' a' w) 
 (hi:ops[i]? = some oi:=by rfl)
 (hs:(Region.noSelect ops&&waitsB md ops F i&&Region.free md ops listed i&&(Region.ready md ops listed).contains i)=true:=by kernel_rfl)
 (hQ:∀ c a w,Q (.panic c) (a.put oi.dst v) w→Q (.panic c) a w:=by exact fun _ _ _ h=>h)
 (hw:Region.wanted oi (yielded ops a.tmps)=true:=by kernel_rfl)
 (hy:∀ w,S w→(execOp a.eval oi).run P w = .ok (.value v) w:=by intro _ hSw;go_simp;(try go_bits);(try with_reducible rfl))
 (hl:listed.setIfInBounds i true=l':=by rfl)
 (ha:a.put oi.dst v=a':=by simp only [Act.put,List.setIfInBounds_toArray];rfl)
  : wpAnyG P md ops Q F S (fuel+1) listed a w:=by subst hl ha;exact wpAnyG_take hi hs hQ (.inl ⟨hw,hy⟩) hS h
theorem tkN (i:Nat) {oi:Oper} {fuel:Nat} {listed l':Array Bool} {a a':Act} {w:World} (hS:S w) (h:wpAnyG P md ops Q F S fuel l' a' w)
 (hi:ops[i]? = some oi:=by rfl)
 (hs:(Region.noSelect ops&&waitsB md ops F i&&Region.free md ops listed i&&(Region.ready md ops listed).contains i)=true:=by kernel_rfl)
 (hQ:∀ c a w,Q (.panic c) (a.put oi.dst undef) w→Q (.panic c) a w:=by exact fun _ _ _ h=>h)
 (hw:Region.wanted oi (yielded ops a.tmps)=false:=by kernel_rfl)
 (hl:listed.setIfInBounds i true=l':=by rfl)
 (ha:a.put oi.dst undef=a':=by simp only [Act.put,List.setIfInBounds_toArray];rfl)
  : wpAnyG P md ops Q F S (fuel+1) listed a w:=by subst hl ha;exact wpAnyG_take hi hs hQ (.inr ⟨hw,rfl⟩) hS h
theorem rdG (i:Nat) {o:Oper} {fuel:Nat} {listed:Array Bool} {a:Act} {w:World}
 (h:∀ K':Act→World→Prop,Shut (∀ a w,(F i=true→S w)→wpAnyG P md ops Q F S fuel (listed.setIfInBounds i true) a w→K' a w)→Oper.wp P o a w K' Q)
 (hr:Region.ready md ops listed=[i]:=by kernel_rfl) (ho:ops[i]? = some o:=by rfl) (hw:Region.wanted o (yielded ops a.tmps)=true:=by kernel_rfl):wpAnyG P md ops Q F S (fuel+1) listed a w :=
 wpAnyG_ready hr (by simp) (AllReadyG.cons ho (fun K hK=>by rw [if_pos hw];exact h K hK) AllReadyG.nil)
end
end Go.Proofs.YtkgfdgfhpdhhaaaGreat
namespace Go.Proofs.YtkgfdgfhpdhhaaaGreat
open Go.ChangeShapes Go.WideShapes Go.RowKit
attribute [local go_sem] Oper.semAt_some
set_option maxRecDepth 100000
set_option maxHeartbeats 4000000
def IRow (W:World) (ao:Option Addr) (l:List Int):Prop:=∀ j x,l[j]? = some x→∃ a,ao=some a∧W.cell? (a.add j)=some (.int .i64 x)
theorem IRow.chg {S:Nat→Prop} {W W':World} {ao:Option Addr} {l:List Int} (h:IRow W ao l) (hc:Chg S W W') (hn:∀ a,ao=some a→¬ S a.block):IRow W' ao l:=fun j x hj=>by
 obtain ⟨a,e,c⟩:=h j x hj
 refine ⟨a,e,hc.cell' c ?_⟩
 unfold Addr.add
 split <;> exact hn a e
theorem IRow.nob {W W':World} {ao:Option Addr} {l:List Int} (h:IRow W ao l) (hc:Chg Nob W W'):IRow W' ao l:=h.chg hc (fun _ _ e=>e)
structure Mvi where
 yes:Int
 no:Int
 to:List Int
structure Sti where
 fin:Bool
 moves:List Mvi
def okAt (l:List Int) (most:Int) (j:Nat):Prop:=0≤l.getD j 0∧l.getD j 0≤most∧(0 < j→l.getD (j - 1) 0 < l.getD j 0)
instance (l:List Int) (most:Int) (j:Nat):Decidable (okAt l most j):=by unfold okAt;infer_instance
def setP (l:List Int) (most:Int):Prop:=∀ j,j < l.length→okAt l most j
instance (l:List Int) (most:Int):Decidable (setP l most):=Nat.decidableBallLT _ _
section
variable {w : World} {ao : Option Addr} {l : List Int}
theorem set_any (c:Nat) (hl:l.length≤2000000) (h:IRow w ao l) (most:Int):Calls Tryz.prog 55 #[.slice ao l.length c,.int .i64 most] w fun e w'=>e = .returned (.bool (decide (setP l most)))∧Chg Nob w w':=by
 have H:=Lib.hid h
 clear h
 go_enter Tryz.func55,Tryz.ntmps55
 go_wp2_with fail
 go_loopw [9] (fun iv wr=>∃ i:Nat,iv = .int .i64 (i:Int)∧i≤l.length∧Hid (∀ j,j < i→okAt l most j)∧Hid (Chg Nob w wr)) (fun iv _=>l.length - (intOf iv).toNat)
 case atStart=>exact ⟨0,rfl,Nat.zero_le _,(by show ∀ j,j < 0→_;intro j hj;omega),Chg.refl _ _⟩
 case round =>
  obtain ⟨i,rfl,hi,Hok,Hc⟩:=hrel
  by_cases hlt:i < l.length
  ·obtain ⟨x,hx⟩:∃ x,l[i]? = some x:=⟨_,List.getElem?_eq_getElem hlt⟩
   obtain ⟨a,hao,hcell⟩:=H.out i x hx
   subst hao
   have hxd:l.getD i 0=x:=by rw [List.getD_eq_getElem?_getD,hx];rfl
   have Hx:=Lib.hid hxd
   have hii:(i:Int) < (l.length:Int):=by omega
   have hi0:(0:Int)≤(i:Int):=by omega
   have hcell2:=Hc.out.cell' hcell (fun e=>e)
   clear hcell hx hxd
   have hbad:¬ okAt l most i→Hid (¬ setP l most):=fun h=>Lib.hid (fun hs=>h (hs i hlt))
   by_cases h0:x < 0
   ·have hr:=hbad (fun h=>by have:=h.1;rw [Hx.out] at this;omega)
    go_wp2_with fail
    go_ret
    exact ⟨by rw [decide_eq_false hr.out];rfl,Hc.out⟩
   ·by_cases h1:most < x
    ·have hr:=hbad (fun h=>by have:=h.2.1;rw [Hx.out] at this;omega)
     have h0d:decide (x < 0)=false:=decide_eq_false h0
     go_wp2_with fail
     go_ret
     exact ⟨by rw [decide_eq_false hr.out];rfl,Hc.out⟩
    ·have h0d:decide (x < 0)=false:=decide_eq_false h0
     have h1d:decide (most < x)=false:=decide_eq_false h1
     by_cases hz:0 < i
     ·obtain ⟨y,hy⟩:∃ y,l[i - 1]? = some y:=⟨_,List.getElem?_eq_getElem (by omega)⟩
      obtain ⟨a',hao,hcelly⟩:=H.out (i - 1) y hy
      cases hao
      have hyd:l.getD (i - 1) 0=y:=by rw [List.getD_eq_getElem?_getD,hy];rfl
      have Hy:=Lib.hid hyd
      have hcelly2:=Hc.out.cell' hcelly (fun e=>e)
      have hzi:(0:Int) < (i:Int):=by omega
      obtain ⟨k,hk⟩:∃ k,k=i - 1:=⟨_,rfl⟩
      rw [← hk] at hcelly2 Hy
      have hk1:(i:Int) - 1=(k:Int):=by omega
      have hk0:(0:Int)≤(k:Int):=by omega
      have hkl:(k:Int) < (l.length:Int):=by omega
      have Hk:=Lib.hid hk
      clear hcelly hy hyd hk
      by_cases h2:x≤y
      ·have hr:=hbad (fun h=>by have:=h.2.2 (by omega);rw [Hx.out,← Hk.out,Hy.out] at this;omega)
       go_wp2_with fail
       go_ret
       exact ⟨by rw [decide_eq_false hr.out];rfl,Hc.out⟩
      ·have h2d:decide (x≤y)=false:=decide_eq_false h2
       have Hok2:Hid (∀ j,j < i+1→okAt l most j):=(show ∀ j,j < i+1→okAt l most j by
        intro j hj
        by_cases e:j=i
        ·subst e;exact ⟨by rw [Hx.out];omega,by rw [Hx.out];omega,fun _=>by rw [Hx.out,← Hk.out,Hy.out];omega⟩
        ·exact Hok.out j (by omega))
       go_wp2_with fail
       go_roundw
       case rel=>exact ⟨i+1,by go_num,by omega,Hok2,Hc⟩
       case measure=>simp [intOf];omega
     ·have hzi:¬ (0:Int) < (i:Int):=by omega
      have hzd:decide ((0:Int) < (i:Int))=false:=decide_eq_false hzi
      have hzn:decide (0 < i)=false:=decide_eq_false hz
      have Hok2:Hid (∀ j,j < i+1→okAt l most j):=(show ∀ j,j < i+1→okAt l most j by
       intro j hj
       obtain rfl:j=i:=by omega
       exact ⟨by rw [Hx.out];omega,by rw [Hx.out];omega,fun h=>absurd h (by omega)⟩)
      go_wp2_with fail
      go_roundw
      case rel=>exact ⟨i+1,by go_num,by omega,Hok2,Hc⟩
      case measure=>simp [intOf];omega
  ·obtain rfl:i=l.length:=by omega
   have Hs:Hid (setP l most):=Hok.out
   go_wp2_with fail
   go_ret
   exact ⟨by rw [decide_eq_true Hs.out];rfl,Hc.out⟩
end
section
variable {w : World} {ao : Option Addr} {l : List Int}
theorem rset_any (c:Nat) (hl:l.length≤2000000) (h:IRow w ao l) (most:Int):Calls Tryz.prog 56 #[.slice ao l.length c,.int .i64 most] w fun e w'=>e = .returned (.bool (decide (setP l most)))∧Chg Nob w w':=by
 have H:=Lib.hid h
 clear h
 go_enter Tryz.func56,Tryz.ntmps56
 go_wp2_with fail
 go_loopw [5] (fun iv wr=>∃ i:Nat,iv = .int .i64 (i:Int)∧i≤l.length∧Hid (∀ j,j < i→okAt l most j)∧Hid (Chg Nob w wr)) (fun iv _=>l.length - (intOf iv).toNat)
 case atStart=>exact ⟨0,rfl,Nat.zero_le _,(by show ∀ j,j < 0→_;intro j hj;omega),Chg.refl _ _⟩
 case round =>
  obtain ⟨i,rfl,hi,Hok,Hc⟩:=hrel
  by_cases hlt:i < l.length
  ·obtain ⟨x,hx⟩:∃ x,l[i]? = some x:=⟨_,List.getElem?_eq_getElem hlt⟩
   obtain ⟨a,hao,hcell⟩:=H.out i x hx
   subst hao
   have hxd:l.getD i 0=x:=by rw [List.getD_eq_getElem?_getD,hx];rfl
   have Hx:=Lib.hid hxd
   have hii:(i:Int) < (l.length:Int):=by omega
   have hi0:(0:Int)≤(i:Int):=by omega
   have hcell2:=Hc.out.cell' hcell (fun e=>e)
   clear hcell hx hxd
   have hbad:¬ okAt l most i→Hid (¬ setP l most):=fun h=>Lib.hid (fun hs=>h (hs i hlt))
   by_cases h0:x < 0
   ·have hr:=hbad (fun h=>by have:=h.1;rw [Hx.out] at this;omega)
    go_wp2_with fail
    go_quiet (fail)
    go_wp2_with fail
    go_ret
    exact ⟨by rw [decide_eq_false hr.out];rfl,Hc.out.drewN _⟩
   ·by_cases h1:most < x
    ·have hr:=hbad (fun h=>by have:=h.2.1;rw [Hx.out] at this;omega)
     have h0d:decide (x < 0)=false:=decide_eq_false h0
     go_wp2_with fail
     go_quiet (fail)
     go_wp2_with fail
     go_ret
     exact ⟨by rw [decide_eq_false hr.out];rfl,Hc.out.drewN _⟩
    ·have h0d:decide (x < 0)=false:=decide_eq_false h0
     have h1d:decide (most < x)=false:=decide_eq_false h1
     by_cases hz:0 < i
     ·obtain ⟨y,hy⟩:∃ y,l[i - 1]? = some y:=⟨_,List.getElem?_eq_getElem (by omega)⟩
      obtain ⟨a',hao,hcelly⟩:=H.out (i - 1) y hy
      cases hao
      have hyd:l.getD (i - 1) 0=y:=by rw [List.getD_eq_getElem?_getD,hy];rfl
      have Hy:=Lib.hid hyd
      have hcelly2:=Hc.out.cell' hcelly (fun e=>e)
      have hzi:(0:Int) < (i:Int):=by omega
      obtain ⟨k,hk⟩:∃ k,k=i - 1:=⟨_,rfl⟩
      rw [← hk] at hcelly2 Hy
      have hk1:(i:Int) - 1=(k:Int):=by omega
      have hk0:(0:Int)≤(k:Int):=by omega
      have hkl:(k:Int) < (l.length:Int):=by omega
      have Hk:=Lib.hid hk
      clear hcelly hy hyd hk
      by_cases h2:x≤y
      ·have hr:=hbad (fun h=>by have:=h.2.2 (by omega);rw [Hx.out,← Hk.out,Hy.out] at this;omega)
       go_wp2_with fail
       go_quiet (fail)
       go_wp2_with fail
       go_ret
       exact ⟨by rw [decide_eq_false hr.out];rfl,Hc.out.drewN _⟩
      ·have h2d:decide (x≤y)=false:=decide_eq_false h2
       have Hok2:Hid (∀ j,j < i+1→okAt l most j):=(show ∀ j,j < i+1→okAt l most j by
        intro j hj
        by_cases e:j=i
        ·subst e;exact ⟨by rw [Hx.out];omega,by rw [Hx.out];omega,fun _=>by rw [Hx.out,← Hk.out,Hy.out];omega⟩
        ·exact Hok.out j (by omega))
       go_wp2_with fail
       go_quiet (fail)
       go_wp2_with fail
       go_roundw
       case rel=>exact ⟨i+1,by go_num,by omega,Hok2,Hc.out.drewN _⟩
       case measure=>simp [intOf];omega
     ·have hzi:¬ (0:Int) < (i:Int):=by omega
      have hzd:decide ((0:Int) < (i:Int))=false:=decide_eq_false hzi
      have hzn:decide (0 < i)=false:=decide_eq_false hz
      have Hok2:Hid (∀ j,j < i+1→okAt l most j):=(show ∀ j,j < i+1→okAt l most j by
       intro j hj
       obtain rfl:j=i:=by omega
       exact ⟨by rw [Hx.out];omega,by rw [Hx.out];omega,fun h=>absurd h (by omega)⟩)
      go_wp2_with fail
      go_quiet (fail)
      go_wp2_with fail
      go_roundw
      case rel=>exact ⟨i+1,by go_num,by omega,Hok2,Hc.out.drewN _⟩
      case measure=>simp [intOf];omega
  ·obtain rfl:i=l.length:=by omega
   have Hs:Hid (setP l most):=Hok.out
   go_wp2_with fail
   go_ret
   exact ⟨by rw [decide_eq_true Hs.out];rfl,Hc.out⟩
end
set_option maxHeartbeats 8000000
def MRow (W:World) (ao:Option Addr) (ms:List Mvi):Prop:=∀ j m,ms[j]? = some m→∃ b o at' ct,ao=some ⟨b,o,none⟩∧W.cell? ⟨b,o+j * 3,none⟩=some (.int .u64 m.yes)∧W.cell? ⟨b,o+j * 3+1,none⟩=some (.int .u64 m.no)∧W.cell? ⟨b,o+j * 3+2,none⟩=some (.slice at' m.to.length ct)∧m.to.length≤2000000∧IRow W at' m.to
theorem MRow.nob {W W':World} {ao:Option Addr} {ms:List Mvi} (h:MRow W ao ms) (hc:Chg Nob W W'):MRow W' ao ms:=fun j m hj=>by
 obtain ⟨b,o,at',ct,e,c0,c1,c2,hl,hr⟩:=h j m hj
 exact ⟨b,o,at',ct,e,hc.cell' c0 (fun e=>e),hc.cell' c1 (fun e=>e),hc.cell' c2 (fun e=>e),hl,hr.nob hc⟩
def SRow (W:World) (ao:Option Addr) (S:List Sti):Prop:=∀ j s,S[j]? = some s→∃ b o am cm,ao=some ⟨b,o,none⟩∧W.cell? ⟨b,o+j * 2,none⟩=some (.bool s.fin)∧W.cell? ⟨b,o+j * 2+1,none⟩=some (.slice am s.moves.length cm)∧s.moves.length≤2000000∧MRow W am s.moves
theorem SRow.nob {W W':World} {ao:Option Addr} {S:List Sti} (h:SRow W ao S) (hc:Chg Nob W W'):SRow W' ao S:=fun j m hj=>by
 obtain ⟨b,o,am,cm,e,c0,c1,hl,hr⟩:=h j m hj
 exact ⟨b,o,am,cm,e,hc.cell' c0 (fun e=>e),hc.cell' c1 (fun e=>e),hl,hr.nob hc⟩
def LRow (W:World) (ao:Option Addr) (I:List (List Int)):Prop:=∀ j l,I[j]? = some l→∃ a at' ct,ao=some a∧W.cell? (a.add j)=some (.slice at' l.length ct)∧l.length≤2000000∧IRow W at' l
theorem LRow.nob {W W':World} {ao:Option Addr} {I:List (List Int)} (h:LRow W ao I) (hc:Chg Nob W W'):LRow W' ao I:=fun j m hj=>by
 obtain ⟨a,at',ct,e,c0,hl,hr⟩:=h j m hj
 exact ⟨a,at',ct,e,hc.cell' c0 (fun e=>e),hl,hr.nob hc⟩
def m0:Mvi:=⟨0,0,[]⟩
def s0:Sti:=⟨false,[]⟩
def moveP (m:Mvi) (i:Nat):Prop:=bits .and .u64 m.yes m.no=0∧setP m.to (i:Int)
instance (m:Mvi) (i:Nat):Decidable (moveP m i):=by unfold moveP;infer_instance
def stateP (s:Sti) (i:Nat):Prop:=∀ k,k < s.moves.length→moveP (s.moves.getD k m0) i
instance (s:Sti) (i:Nat):Decidable (stateP s i):=Nat.decidableBallLT _ _
def sumN (S:List Sti):Nat:=(S.map fun s=>s.moves.length).sum
def fineA (I:List (List Int)) (S:List Sti):Prop:=S.length≤4096∧I.length≤131072∧(∀ j,j < I.length→setP (I.getD j []) ((S.length:Int) - 1))∧(∀ i,i < S.length→stateP (S.getD i s0) i)∧sumN S≤131072
instance (I:List (List Int)) (S:List Sti):Decidable (fineA I S):=by unfold fineA;infer_instance
def checkAN (I:List (List Int)) (S:List Sti):Int:=if fineA I S then 0 else 110
theorem sumN_take (S:List Sti) {i:Nat} {s:Sti} (h:S[i]? = some s):sumN (S.take (i+1))=sumN (S.take i)+s.moves.length:=by
 unfold sumN
 have hi:=(List.getElem?_eq_some_iff.1 h)
 obtain ⟨hi,e⟩:=hi
 rw [List.take_succ_eq_append_getElem hi,List.map_append,List.sum_append,e]
 simp
theorem sumN_le {S:List Sti} (h:∀ s∈S,s.moves.length≤2000000):sumN S≤2000000 * S.length:=by
 induction S with
 | nil=>exact Nat.le_refl _
 | cons s S ih =>
   have h1:=ih (fun x hx=>h x (List.mem_cons_of_mem _ hx))
   have h2:=h s (List.mem_cons_self ..)
   unfold sumN at h1 ⊢
   simp only [List.map_cons,List.sum_cons,List.length_cons]
   omega
theorem SRow.small {W:World} {ao:Option Addr} {S:List Sti} (h:SRow W ao S):∀ s∈S,s.moves.length≤2000000:=fun s hs=>by
 obtain ⟨j,hj,e⟩:=List.mem_iff_getElem.1 hs
 obtain ⟨_,_,_,_,_,_,_,hl,_⟩:=h j s (by rw [List.getElem?_eq_getElem hj,e])
 exact hl
theorem bits_and_nonneg (x y:Int):0≤bits .and .u64 x y:=by
 unfold bits
 simp only [IntKind.wrap]
 split
 ·rename_i h;simp [IntKind.signed] at h
 ·exact Int.emod_nonneg _ (by decide)
theorem box_cells (w:World) (cs:Array Value) (t:TypeId):∃ X,X=w.alloc (.cells cs t)∧Chg Nob w X∧X.heap[w.heap.size]? = some (.cells cs t (0,0))∧X.heap.size=w.heap.size+1:=⟨_,rfl,(Chg.refl _ _).alloc _,heap_alloc_new _ _,World.size_alloc _ _⟩
section
variable {w : World} {ai as' : Option Addr} {ci cs : Nat} {I : List (List Int)} {S : List Sti}
theorem acheck_any (hI:I.length≤2000000) (hS:S.length≤2000000) (h:LRow w ai I) (k:SRow w as' S):Calls Tryz.prog 23 #[.agg #[.slice ai I.length ci,.slice as' S.length cs]] w fun e w'=>e = .returned (.int .i64 (checkAN I S))∧Chg Nob w w':=by
 obtain ⟨X,hX,hcX,hb,hsX⟩:=box_cells w #[.slice ai I.length ci,.slice as' S.length cs] 38
 obtain ⟨c0,c1,_⟩:=cell_two hb
 have HcX:=Lib.hid hcX
 have HI:=Lib.hid (h.nob hcX)
 have HS:=Lib.hid (k.nob hcX)
 have HB:Hid (∀ W,Chg Nob X W→W.cell? ⟨w.heap.size,0,none⟩=some (.slice ai I.length ci)∧W.cell? ⟨w.heap.size,1,none⟩=some (.slice as' S.length cs)):=(show ∀ W,Chg Nob X W→_∧_ from fun W hW=>⟨hW.cell' c0 (fun e=>e),hW.cell' c1 (fun e=>e)⟩)
 have Hbad:Hid (¬ fineA I S→checkAN I S=110):=Lib.hid (fun h=>if_neg h)
 rw [hX] at c0 c1
 clear h k hb hcX hsX
 go_enter Tryz.func23,Tryz.ntmps23
 by_cases hs4:4096 < S.length
 ·have h4:(4096:Int) < (S.length:Int):=by omega
  have Hr:=Lib.hid (Hbad.out (fun h=>by have:=h.1;omega))
  go_wp2_with fail
  go_ret
  exact ⟨by rw [Hr.out];rfl,by rw [← hX];exact HcX.out⟩
 ·have h4:¬ (4096:Int) < (S.length:Int):=by omega
  have h4d:decide ((4096:Int) < (S.length:Int))=false:=decide_eq_false h4
  by_cases hi1:131072 < I.length
  ·have h5:(131072:Int) < (I.length:Int):=by omega
   have Hr:=Lib.hid (Hbad.out (fun h=>by have:=h.2.1;omega))
   go_wp2_with fail
   go_ret
   exact ⟨by rw [Hr.out];rfl,by rw [← hX];exact HcX.out⟩
  ·have h5:¬ (131072:Int) < (I.length:Int):=by omega
   have h5d:decide ((131072:Int) < (I.length:Int))=false:=decide_eq_false h5
   have Hs4:Hid (S.length≤4096):=(show S.length≤4096 by omega)
   have Hi1:Hid (I.length≤131072):=(show I.length≤131072 by omega)
   go_wp2_with fail
   rw [← hX]
   clear hX c0 c1 h4 h4d h5 h5d hs4 hi1
   go_loopw [23] (fun iv wr=>∃ i:Nat,iv = .int .i64 (i:Int)∧i≤I.length∧Hid (∀ j,j < i→setP (I.getD j []) ((S.length:Int) - 1))∧Hid (Chg Nob X wr)) (fun iv _=>I.length - (intOf iv).toNat)
   case atStart=>exact ⟨0,rfl,Nat.zero_le _,(by show ∀ j,j < 0→_;intro j hj;omega),Chg.refl _ _⟩
   case round =>
    obtain ⟨i,rfl,hi,Hok,Hc⟩:=hrel
    obtain ⟨c0,c1⟩:=HB.out wr Hc.out
    by_cases hlt:i < I.length
    ·obtain ⟨l,hl⟩:∃ l,I[i]? = some l:=⟨_,List.getElem?_eq_getElem hlt⟩
     obtain ⟨a,at',ct,rfl,hcell,hll,hlr⟩:=HI.out i l hl
     have hld:I.getD i []=l:=by rw [List.getD_eq_getElem?_getD,hl];rfl
     have Hld:=Lib.hid hld
     have hii:(i:Int) < (I.length:Int):=by omega
     have hi0:(0:Int)≤(i:Int):=by omega
     have hcell2:=Hc.out.cell' hcell (by unfold Addr.add;split <;> exact fun e=>e)
     have hp:=set_any ct hll (hlr.nob Hc.out) ((S.length:Int) - 1)
     clear hcell hl hld hll hlr
     go_wp2_with fail
     (with_reducible refine hp.mono ?_)
     clear hp
     rintro e w3 ⟨rfl,hc3⟩
     have Hc3:Hid (Chg Nob X w3):=Lib.hid (Hc.out.trans1 hc3)
     clear hc3 c0 c1 hcell2
     cases hd:decide (setP l ((S.length:Int) - 1)) with
     | false =>
       have Hr:=Lib.hid (Hbad.out (fun h=>by have:=h.2.2.1 i hlt;rw [Hld.out] at this;exact of_decide_eq_false hd this))
       go_wp2_with fail
       go_ret
       exact ⟨by rw [Hr.out];rfl,HcX.out.trans1 Hc3.out⟩
     | true =>
       have Hok2:Hid (∀ j,j < i+1→setP (I.getD j []) ((S.length:Int) - 1)):=(show ∀ j,j < i+1→setP (I.getD j []) ((S.length:Int) - 1) by
        intro j hj
        by_cases e:j=i
        ·subst e;rw [Hld.out];exact of_decide_eq_true hd
        ·exact Hok.out j (by omega))
       go_wp2_with fail
       go_roundw
       case rel=>exact ⟨i+1,by go_num,by omega,Hok2,Hc3⟩
       case measure=>simp [intOf];omega
    ·obtain rfl:i=I.length:=by omega
     have HokI:=Lib.hid Hok.out
     clear Hok hlt hi
     go_wp2_with fail
     clear c0 c1
     obtain ⟨W0,hW0⟩:∃ W,W=wr:=⟨_,rfl⟩
     subst hW0
     go_loopw [5,38] (fun mv iv wr=>∃ (i n:Nat),iv = .int .i64 (i:Int)∧mv = .int .i64 (n:Int)∧i≤S.length∧Hid (n=sumN (S.take i))∧Hid (∀ j,j < i→stateP (S.getD j s0) j)∧Hid (Chg Nob X wr)) (fun _ iv _=>S.length - (intOf iv).toNat)
     case atStart=>exact ⟨0,0,rfl,rfl,Nat.zero_le _,(by show 0=sumN (S.take 0);rfl),(by show ∀ j,j < 0→_;intro j hj;omega),Hc⟩
     case round =>
      obtain ⟨i,n,rfl,rfl,hi,Hn,Hok,Hc⟩:=hrel
      by_cases hlt:i < S.length
      ·obtain ⟨s,hs⟩:∃ s,S[i]? = some s:=⟨_,List.getElem?_eq_getElem hlt⟩
       obtain ⟨b,o,am,cm,rfl,hf,hmv,hml,hmr⟩:=HS.out i s hs
       have hsd:S.getD i s0=s:=by rw [List.getD_eq_getElem?_getD,hs];rfl
       have Hsd:=Lib.hid hsd
       have Hn2:Hid (n+s.moves.length=sumN (S.take (i+1))):=(show n+s.moves.length=sumN (S.take (i+1)) by rw [sumN_take S hs,Hn.out])
       have hnb:n+s.moves.length≤2000000000000:=by
        have h1:=sumN_le (S:=S.take (i+1)) (fun x hx=>HS.out.small x (List.mem_of_mem_take hx))
        rw [← Hn2.out,List.length_take] at h1
        have:=Hs4.out
        omega
       have hii:(i:Int) < (S.length:Int):=by omega
       have hi0:(0:Int)≤(i:Int):=by omega
       have hf2:=Hc.out.cell' hf (fun e=>e)
       have hmv2:=Hc.out.cell' hmv (fun e=>e)
       obtain ⟨Y,hY,hcY,hbY,_⟩:=box_cells wr #[.bool s.fin,.slice am s.moves.length cm] 69
       obtain ⟨e0,e1,_⟩:=cell_two hbY
       have HY:=Lib.hid (Hc.out.trans1 hcY)
       have HE:Hid (∀ V,Chg Nob Y V→V.cell? ⟨wr.heap.size,1,none⟩=some (.slice am s.moves.length cm)):=(show ∀ V,Chg Nob Y V→_ from fun V hV=>hV.cell' e1 (fun e=>e))
       have Hmr:=Lib.hid (hmr.nob HY.out)
       rw [hY] at e0 e1
       clear hf hmv hmr hs hsd hbY hcY
       go_wp2_with fail
       rw [← hY]
       clear hY e0 e1 hf2 hmv2
       go_loopw [51] (fun kv wr'=>∃ k:Nat,kv = .int .i64 (k:Int)∧k≤s.moves.length∧Hid (∀ j,j < k→moveP (s.moves.getD j m0) i)∧Hid (Chg Nob Y wr')) (fun kv _=>s.moves.length - (intOf kv).toNat)
       case atStart=>exact ⟨0,rfl,Nat.zero_le _,(by show ∀ j,j < 0→_;intro j hj;omega),Chg.refl _ _⟩
       case round =>
        obtain ⟨k,rfl,hk,Hokm,HcY⟩:=hrel
        by_cases hkl:k < s.moves.length
        ·obtain ⟨m,hm⟩:∃ m,s.moves[k]? = some m:=⟨_,List.getElem?_eq_getElem hkl⟩
         obtain ⟨b2,o2,at',ct,rfl,hy,hno,hto,htl,htr⟩:=Hmr.out k m hm
         have hmd:s.moves.getD k m0=m:=by rw [List.getD_eq_getElem?_getD,hm];rfl
         have Hmd:=Lib.hid hmd
         have hki:(k:Int) < (s.moves.length:Int):=by omega
         have hk0:(0:Int)≤(k:Int):=by omega
         have hy2:=HcY.out.cell' hy (fun e=>e)
         have hno2:=HcY.out.cell' hno (fun e=>e)
         have hto2:=HcY.out.cell' hto (fun e=>e)
         obtain ⟨Z,hZ,hcZ,hbZ,_⟩:=box_cells wr #[.int .u64 m.yes,.int .u64 m.no,.slice at' m.to.length ct] 75
         obtain ⟨g0,g1,g2,_⟩:=cells_three hbZ
         have HZ:=Lib.hid (HcY.out.trans1 hcZ)
         have hp:=set_any (w:=Z) ct htl (htr.nob HZ.out) (i:Int)
         obtain ⟨z,hz⟩:∃ z,z=bits .and .u64 m.yes m.no:=⟨_,rfl⟩
         have hz0:0≤z:=by rw [hz];exact bits_and_nonneg _ _
         have Hz:=Lib.hid hz
         rw [hZ] at g0 g1 g2
         have hzz:=hz.symm
         clear hy hno hto htr hm hmd hbZ hcZ hz
         by_cases hz1:0 < z
         ·have hzd:decide (0 < z)=true:=decide_eq_true hz1
          have Hr:=Lib.hid (Hbad.out (fun h=>by
           have h1:=(h.2.2.2.1 i hlt)
           rw [Hsd.out] at h1
           have h2:=(h1 k hkl).1
           rw [Hmd.out,← Hz.out] at h2
           omega))
          go_wp2_with fail
          rw [← hZ]
          go_ret
          exact ⟨by rw [Hr.out];rfl,(HcX.out.trans1 HY.out).trans1 HZ.out⟩
         ·have hzd:decide (0 < z)=false:=decide_eq_false hz1
          have Hz0:Hid (z=0):=(show z=0 by omega)
          go_wp2_with fail
          rw [← hZ]
          (with_reducible refine hp.mono ?_)
          clear hp hZ g0 g1 g2 hy2 hno2 hto2
          rintro e w5 ⟨rfl,hc5⟩
          have Hc5:Hid (Chg Nob Y w5):=Lib.hid (HZ.out.trans1 hc5)
          clear hc5
          cases hd:decide (setP m.to (i:Int)) with
          | false =>
            have Hr:=Lib.hid (Hbad.out (fun h=>by
             have h1:=(h.2.2.2.1 i hlt)
             rw [Hsd.out] at h1
             have h2:=(h1 k hkl).2
             rw [Hmd.out] at h2
             exact of_decide_eq_false hd h2))
            go_wp2_with fail
            go_ret
            exact ⟨by rw [Hr.out];rfl,(HcX.out.trans1 HY.out).trans1 Hc5.out⟩
          | true =>
            have Hokm2:Hid (∀ j,j < k+1→moveP (s.moves.getD j m0) i):=(show ∀ j,j < k+1→moveP (s.moves.getD j m0) i by
             intro j hj
             by_cases e:j=k
             ·subst e;rw [Hmd.out];exact ⟨by rw [← Hz.out];exact Hz0.out,of_decide_eq_true hd⟩
             ·exact Hokm.out j (by omega))
            go_wp2_with fail
            go_roundw
            case rel=>exact ⟨k+1,by go_num,by omega,Hokm2,Hc5⟩
            case measure=>simp [intOf];omega
        ·obtain rfl:k=s.moves.length:=by omega
         have Hok2:Hid (∀ j,j < i+1→stateP (S.getD j s0) j):=(show ∀ j,j < i+1→stateP (S.getD j s0) j by
          intro j hj
          by_cases e:j=i
          ·subst e;rw [Hsd.out];exact Hokm.out
          ·exact Hok.out j (by omega))
         have Hcc:=Lib.hid (HY.out.trans1 HcY.out)
         go_wp2_with fail
         go_roundw
         case rel=>exact ⟨i+1,n+s.moves.length,by go_num,by go_num,by omega,Hn2,Hok2,Hcc⟩
         case measure=>simp [intOf];omega
      ·obtain rfl:i=S.length:=by omega
       have HnS:Hid (n=sumN S):=(show n=sumN S by rw [Hn.out,List.take_length])
       by_cases hn:131072 < n
       ·have hni:(131072:Int) < (n:Int):=by omega
        have Hr:=Lib.hid (Hbad.out (fun h=>by have:=h.2.2.2.2;rw [← HnS.out] at this;omega))
        go_wp2_with fail
        go_ret
        exact ⟨by rw [Hr.out];rfl,HcX.out.trans1 Hc.out⟩
       ·have hni:¬ (131072:Int) < (n:Int):=by omega
        have hnd:decide ((131072:Int) < (n:Int))=false:=decide_eq_false hni
        have Hr:Hid (checkAN I S=0):=Lib.hid (if_pos ⟨Hs4.out,Hi1.out,HokI.out,Hok.out,by rw [← HnS.out];omega⟩)
        go_wp2_with fail
        go_ret
        exact ⟨by rw [Hr.out];rfl,HcX.out.trans1 Hc.out⟩
end
end Go.Proofs.YtkgfdgfhpdhhaaaGreat
namespace Go.Proofs.YtkgfdgfhpdhhaaaGreat
open Go.ChangeShapes Go.WideShapes Go.RowKit
set_option maxHeartbeats 1000000
def URow (W:World) (ao:Option Addr) (L:List Int):Prop:=∀ j x,L[j]? = some x→∃ a,ao=some a∧W.cell? (a.add j)=some (.int .u64 x)
theorem URow.nob {W W':World} {ao:Option Addr} {L:List Int} (h:URow W ao L) (hc:Chg Nob W W'):URow W' ao L:=fun j x hj=>by
 obtain ⟨a,e,h2⟩:=h j x hj
 exact ⟨a,e,hc.cell' h2 (fun e=>e)⟩
def lcheckN (np nl:Nat):Int:=if nl=0∨4096 < np+nl then 100 else 0
theorem box_two (w:World) (a b:Value):∃ X,X=w.alloc (.cells #[a,b] 28)∧Chg Nob w X∧X.heap.size=w.heap.size+1∧X.heap[w.heap.size]? = some (.cells #[a,b] 28 (0,0)):=⟨_,rfl,(Chg.refl _ _).alloc _,World.size_alloc _ _,heap_alloc_new _ _⟩
section
variable {ap al : Option Addr} {cp cl : Nat} {P L : List Int} {w : World}
theorem lcheck_any (np nl:Nat) (hl:np+nl≤10000):Calls Tryz.prog 31 #[.agg #[.slice ap np cp,.slice al nl cl]] w fun e w'=>e = .returned (.int .i64 (lcheckN np nl))∧Chg Nob w w':=by
 obtain ⟨X,hX,hcX,_,hb⟩:=box_two w (.slice ap np cp) (.slice al nl cl)
 obtain ⟨c0,c1,_⟩:=cell_two hb
 rw [hX] at c0 c1 hcX
 have HcX:=Lib.hid hcX
 clear hb hcX hX
 by_cases h0:nl=0
 ·subst h0
  have Hr:Hid (lcheckN np 0=100):=if_pos (.inl rfl)
  go_enter Tryz.func31,Tryz.ntmps31
  go_wp2
  go_ret
  exact ⟨by rw [Hr.out];rfl,HcX.out⟩
 ·have h0b:((nl:Int)==0)=false:=by simpa using h0
  have h0i:¬ (nl:Int)=0:=by omega
  have hi:(np:Int)+(nl:Int)≤10000:=by omega
  by_cases hb:4096 < np+nl
  ·have hbi:4096 < (np:Int)+(nl:Int):=by omega
   have Hr:Hid (lcheckN np nl=100):=if_pos (.inr hb)
   clear hb h0
   go_enter Tryz.func31,Tryz.ntmps31
   go_wp2
   go_ret
   exact ⟨by rw [Hr.out];rfl,HcX.out⟩
  ·have hbi:¬ 4096 < (np:Int)+(nl:Int):=by omega
   have Hr:Hid (lcheckN np nl=0):=if_neg (by omega)
   clear hb h0
   go_enter Tryz.func31,Tryz.ntmps31
   go_wp2
   go_ret
   exact ⟨by rw [Hr.out];rfl,HcX.out⟩
end
theorem Tryz.info53:(Tryz.prog.info? 53).map (fun i=>(i.zero,i.size,i.bytes))=some (some (.int .u64 0),1,8):=by kernel_rfl
theorem info25_parts:∃ i,Tryz.prog.info? 53=some i∧i.zero=some (.int .u64 0)∧i.size=1∧i.bytes=8:=by
 have h:=Tryz.info53
 cases hi:Tryz.prog.info? 53 with
 | none=>rw [hi] at h;simp at h
 | some i=>rw [hi] at h;simp at h;exact ⟨i,rfl,h.1,h.2.1,h.2.2⟩
def uvs (M:List Int):List Value:=M.map (.int .u64)
theorem uvs_one (M:List Int):∀ u∈uvs M,u.oneCell'=true:=by
 intro u hu
 obtain ⟨x,_,rfl⟩:=List.mem_map.1 hu
 rfl
theorem append25 {B:Nat} {w:World} {v:Value} {n:Nat} {xs:List Value} {a:Addr} {M:List Int} (c:Nat) (h:w.ownsRow B 53 1 v n xs) (hB:B≤w.heap.size) (hn:n+M.length≤1000000) (hM:∀ j x,M[j]? = some x→w.cell? (a.add j)=some (.int .u64 x)) :
 ∃ v' w',(Builtin.append_ #[26,26] 26 #[v,.slice (some a) M.length c]).run Tryz.prog w = .ok v' w'∧w'.ownsRow B 53 1 v' (n+M.length) (xs++uvs M)∧w.grownBy w' v.ownBlock∧(v'.ownBlock=v.ownBlock∨v'.ownBlock=some w.heap.size):=by
 obtain ⟨i,hi,hz,hs,hb⟩:=info25_parts
 obtain ⟨v',w',h1,h2,h3,_,h5⟩:=run_append_own_at (P:=Tryz.prog) w B 26 26 53 i _ 1 8 Tryz.underlying26 hi hz hs hb rfl (by decide) v n _ h a M.length c (uvs M) (by simp [uvs])
  (fun j u hj=>by
   unfold uvs at hj
   rw [List.getElem?_map] at hj
   cases hx:M[j]? with
   | none=>rw [hx] at hj;cases hj
   | some x=>rw [hx] at hj;cases hj;exact hM j x hx) (uvs_one M) (by unfold maxLen;omega) (by omega) hB
 exact ⟨v',w',h1,h2,h3,h5⟩
set_option maxRecDepth 100000
set_option maxHeartbeats 4000000
def bcells (L:List Bool):Array Value:=(L.map Value.bool).toArray
def BBlk (W:World) (g:Nat) (L:List Bool):Prop:=W.heap[g]? = some (.cells (bcells L) 4 (0,0))
theorem BBlk.cell {W:World} {g:Nat} {L:List Bool} (h:BBlk W g L) {j:Nat} {x:Bool} (hj:L[j]? = some x):W.cell? ⟨g,j,none⟩=some (.bool x) :=
 cell_row h j (by unfold bcells;simp [hj])
theorem BBlk.free {W:World} {g:Nat} {L:List Bool} (h:BBlk W g L) (j:Nat):W.frozen? ⟨g,j,none⟩=false:=by
 unfold World.frozen?
 rw [h]
 simp
theorem BBlk.set {W:World} {g:Nat} {L:List Bool} (h:BBlk W g L) (j:Nat) (x:Bool):BBlk (W.setCell ⟨g,j,none⟩ (.bool x)) g (L.set j x):=by
 unfold BBlk at *
 simp only [World.setCell,Array.getElem?_modify,h,if_true,Option.map_some,bcells]
 congr 3
 rw [List.map_set]
 simp [List.setIfInBounds_toArray]
theorem BBlk.chg {S:Nat→Prop} {W W':World} {g:Nat} {L:List Bool} (h:BBlk W g L) (hc:Chg S W W') (hn:¬ S g):BBlk W' g L:=hc.at h hn
theorem BBlk.lt {W:World} {g:Nat} {L:List Bool} (h:BBlk W g L):g < W.heap.size:=(Array.getElem?_eq_some_iff.1 h).1
theorem Tryz.info4:(Tryz.prog.info? 4).map (fun i=>(i.zero,i.size,i.bytes))=some (some (.bool false),1,1):=by kernel_rfl
theorem made_bools (n:Nat):madeCells (Value.cells (.bool false)) (n * 1)=bcells (List.replicate n false):=by
 rw [Nat.mul_one]
 show (Array.range n).map (fun _=>_)=_
 unfold bcells
 apply Array.ext
 ·simp
 ·intro i h1 h2
  simp [Value.cells,Nat.mod_one]
theorem make116 (n:Nat) (hn:n≤10000) (w:World):(Instr.makeSlice 34 (.int .i64 (n:Int)) (.int .i64 (n:Int))).run Tryz.prog w = .ok (.slice (some ⟨w.heap.size,0,none⟩) n n) (w.alloc (.cells (bcells (List.replicate n false)) 4)):=by
 have h:=Tryz.info4
 cases hi:Tryz.prog.info? 4 with
 | none=>rw [hi] at h;simp at h
 | some i =>
   rw [hi] at h
   simp at h
   have hr:=run_makeSlice (P:=Tryz.prog) (w:=w) 34 4 i (.bool false) Tryz.underlying34 hi h.1 .i64 .i64 (n:Int) (n:Int) (by omega) (Int.le_refl _) (by rw [h.2.1];simp;omega) (by rw [h.2.2];omega) (by omega)
   rw [h.2.1,Int.toNat_natCast,made_bools] at hr
   exact hr
def TabIs (W:World) (tb:Nat) (nv:Value) (ap:Option Addr) (np cp:Nat) (al:Option Addr) (nl cl n:Nat):Prop:=W.heap[tb]? = some (.cells #[nv,.slice ap np cp,.slice al nl cl,.int .i64 (n:Int)] 99 (0,0))
theorem TabIs.cells {W:World} {tb:Nat} {nv:Value} {ap:Option Addr} {np cp:Nat} {al:Option Addr} {nl cl n:Nat} (h:TabIs W tb nv ap np cp al nl cl n) :
 W.cell? ⟨tb,0,none⟩=some nv∧W.cell? ⟨tb,1,none⟩=some (.slice ap np cp)∧W.cell? ⟨tb,2,none⟩=some (.slice al nl cl)∧W.cell? ⟨tb,3,none⟩=some (.int .i64 (n:Int)):=by
 unfold TabIs at h
 simp [World.cell?,h]
section
variable {tb : Nat} {nv : Value} {ap al : Option Addr} {np cp nl cl n : Nat} {w : World}
theorem tnext_any (hT:TabIs w tb nv ap np cp al nl cl n) (i:Nat) (hi:i < n) (hn:n≤10000) (hnp:np≤10000) (r:Nat) (hr:r=if i+1=n then np else i+1) :
 Calls Tryz.prog 103 #[.pointer (some ⟨tb,0,none⟩),.int .i64 (i:Int)] w fun e w'=>e = .returned (.int .i64 (r:Int))∧w'=w:=by
 obtain ⟨t0,t1,t2,t3⟩:=hT.cells
 clear hT
 have hi0:(0:Int)≤(i:Int):=by omega
 have hi1:(i:Int)+1≤10000:=by omega
 by_cases h:i+1=n
 ·have hb:((i:Int)+1==(n:Int))=true:=by rw [beq_iff_eq];omega
  rw [if_pos h] at hr
  subst hr
  clear h hi
  go_enter Tryz.func103,Tryz.ntmps103
  go_wp2
  go_ret
  exact ⟨rfl,rfl⟩
 ·have hb:((i:Int)+1==(n:Int))=false:=by rw [beq_eq_false_iff_ne];omega
  have hri:(i:Int)+1=(r:Int):=by rw [if_neg h] at hr;omega
  clear h hi hr
  go_enter Tryz.func103,Tryz.ntmps103
  go_wp2
  go_ret
  exact ⟨by rw [← hri];rfl,rfl⟩
theorem each_any (hT:TabIs w tb nv ap np cp al nl cl n) (hn:n≤10000) (k:Nat) (caps:Array Value) (hent:∀ args w,(callFunc k args).run Tryz.prog w = .ok (.enter k args) w) (s:Nat→Bool) (hs:∀ i,i < n→∀ W,Chg Nob w W→Calls Tryz.prog k (#[.int .i64 (i:Int)]++caps) W fun e W'=>e = .returned (.bool (s i))∧Chg Nob W W') :
 Calls Tryz.prog 97 #[.pointer (some ⟨tb,0,none⟩),.func (.func k) #[] caps] w fun e w'=>Chg Nob w w'∧∃ g,w.heap.size≤g∧e = .returned (.slice (some ⟨g,0,none⟩) n n)∧BBlk w' g ((List.range n).map s):=by
 obtain ⟨t0,t1,t2,t3⟩:=hT.cells
 have HT:=Lib.hid hT
 have Hs:=Lib.hid hs
 have hmk:=make116 n hn
 have hni:(n:Int)≤10000:=by omega
 clear hT hs
 go_enter Tryz.func97,Tryz.ntmps97
 go_wp2_with fail
 clear hmk t0 t1 t2 t3
 have hW:Chg Nob w (w.alloc (.cells (bcells (List.replicate n false)) 4)):=(Chg.refl _ _).alloc _
 have hb:BBlk (w.alloc (.cells (bcells (List.replicate n false)) 4)) w.heap.size (List.replicate n false):=heap_alloc_new _ _
 have HW:=Lib.hid hW
 have Hb:=Lib.hid hb
 have hsz:(w.alloc (.cells (bcells (List.replicate n false)) 4)).heap.size=w.heap.size+1:=World.size_alloc _ _
 have Hsz:=Lib.hid hsz
 clear hW hb hsz
 generalize (w.alloc (.cells (bcells (List.replicate n false)) 4))=W0 at *
 go_loopw [6,14] (fun _ iv wr=>∃ i:Nat,iv = .int .i64 (i:Int)∧i≤n∧Chg (At1 w.heap.size) W0 wr∧∃ L,Hid (BBlk wr w.heap.size L∧L.length=n∧∀ j,j < i→L[j]? = some (s j))) (fun _ iv _=>n - (intOf iv).toNat)
 case atStart=>exact ⟨0,rfl,Nat.zero_le _,Chg.refl _ _,_,Hb.out,List.length_replicate,fun j h=>absurd h (Nat.not_lt_zero j)⟩
 case round =>
  obtain ⟨i,rfl,hi,hcr,L,hL⟩:=hrel
  by_cases hlt:i < n
  ·have hii:(i:Int) < (n:Int):=by omega
   have hi0:(0:Int)≤(i:Int):=by omega
   have hcw:Chg Nob w wr:=HW.out.trans hcr (fun k hk e=>by have e:k=w.heap.size:=e;omega)
   have hp:=Hs.out i hlt wr hcw
   have Hp:=Lib.hid hp
   clear hp
   obtain ⟨hB,hLl,hLs⟩:=hL.out
   have HB:=Lib.hid hB
   have HLs:Hid (∀ j,j < i+1→(L.set i (s i))[j]? = some (s j)):=(show ∀ j,j < i+1→(L.set i (s i))[j]? = some (s j) from fun j hj=>by
    by_cases e:j=i
    ·subst e;rw [List.getElem?_set_self (by omega)]
    ·rw [List.getElem?_set_ne (Ne.symm e)];exact hLs j (by omega))
   have HLl:Hid ((L.set i (s i)).length=n):=(show (L.set i (s i)).length=n by rw [List.length_set];exact hLl)
   obtain ⟨x,hx⟩:∃ x,L[i]? = some x:=⟨_,List.getElem?_eq_getElem (by omega)⟩
   have Hx:=Lib.hid hx
   clear hB hLl hLs hL hx
   go_wp2_with fail
   (with_reducible refine Hp.out.mono ?_)
   clear Hp
   rintro e W' ⟨rfl,hcW'⟩
   have hB':=HB.out.chg hcW' (fun e=>e)
   have c0:=hB'.cell Hx.out
   have f0:=hB'.free i
   have HB2:=Lib.hid (hB'.set i (s i))
   have hset:Chg (At1 w.heap.size) W0 (W'.setCell ⟨w.heap.size,i,none⟩ (.bool (s i))):=(hcr.trans1 hcW'.any).setCell (p:=⟨w.heap.size,i,none⟩) (fun _=>rfl) _
   have Hset:=Lib.hid hset
   clear hB' hset hcW' hcr hcw
   go_wp2_with fail
   go_roundw
   case rel=>exact ⟨i+1,by go_num,by omega,Hset.out,_,HB2.out,HLl.out,HLs.out⟩
   case measure=>simp [intOf];omega
  ·obtain rfl:i=n:=by omega
   obtain ⟨hB,hLl,hLs⟩:=hL.out
   have hLe:L=(List.range i).map s:=by
    refine List.ext_getElem? (fun j=>?_)
    rcases Nat.lt_or_ge j i with h | h
    ·rw [hLs j h,List.getElem?_map,List.getElem?_range h];rfl
    ·rw [List.getElem?_eq_none_iff.2 (by omega),List.getElem?_eq_none_iff.2 (by rw [List.length_map,List.length_range];omega)]
   have HB:Hid (BBlk wr w.heap.size ((List.range i).map s)):=(show BBlk wr w.heap.size _ from hLe ▸ hB)
   have Hc:Hid (Chg Nob w wr):=Lib.hid (HW.out.trans hcr (fun k hk e=>by have e:k=w.heap.size:=e;omega))
   clear hB hLl hLs hL hLe hcr
   go_wp2
   go_ret
   exact ⟨Hc.out,_,Nat.le_refl _,rfl,HB.out⟩
end
end Go.Proofs.YtkgfdgfhpdhhaaaGreat
