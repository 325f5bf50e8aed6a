/- Parts of the walks and of the plain theory, the first: A name's row of truths. Conditions: the table lies in the world. -/
import Derived.Test.YtkgfdgfhpdhhaaaGreatT16
import Derived.Test.YtkgfdgfhpdhhaaaGreatT08
namespace Go.Proofs.YtkgfdgfhpdhhaaaGreat
open Go.ChangeShapes Go.WideShapes Go.RowKit Go.Shelf
attribute [local go_sem] Oper.semAt_some
set_option maxRecDepth 100000
set_option maxHeartbeats 4000000
theorem anyIn_of_any {l n:Nat} {P:Program} {md:Region.Mode} {ops:Array Oper} {Q:Exit→Act→World→Prop} (hd:∀ (i:Nat) (o:Oper),ops[i]? = some o→noDefer o=true) (hno:∀ a w,¬ Q .outgrown a w) :
 ∀ (fuel:Nat) (listed:Array Bool) (a:Act) (w:World),wpAny P md ops Q fuel listed a w→wpAnyIn (Fence.wide.inRound l) n P md ops Q fuel listed a w
 | 0,_,_,_,h=>h
 | fuel+1,listed,a,w,h=>by
   refine ⟨h.1,fun i hi=>?_⟩
   have h2:=wpOp_mono (fun a' w' h'=>anyIn_of_any (l:=l) (n:=n) hd hno fuel _ a' w' h') (h.2 i hi)
   unfold wpOp at h2
   unfold wpOpIn
   cases ho:ops[i]? with
   | none=>rw [ho] at h2;exact h2
   | some o =>
     rw [ho] at h2
     dsimp only at h2 ⊢
     split
     ·rename_i hw
      rw [if_pos hw] at h2
      rcases h2 with h2 | ⟨_,a',w',h3⟩
      ·exact op_round (noDefer_of (hd i o ho)) h2
      ·exact absurd h3 (hno a' w')
     ·rename_i hw;rw [if_neg hw] at h2;exact ⟨fun _ _=>trivial,h2⟩
theorem wp_region_free_round {l n:Nat} {P:Program} {Q:Exit→Act→World→Prop} (F:Nat→Bool) (S:World→Prop) {id:Nat} {a:Act} {w:World} {ops:List Oper} (hm:P.follows .mixedOrders=true) (hd:ops.all noDefer=true) (hno:∀ a w,¬ Q .outgrown a w) (hS:S w.drew)
 (h:S w.drew→wpAnyG P .any ops.toArray Q F S ops.toArray.size (Array.replicate ops.toArray.size false) a w.drew):(Code.region id ops.toArray true).wpIn (Fence.wide.inRound l) n P Q a w :=
 wpIn_region_any hm (anyIn_of_any (fun i o ho=>List.all_eq_true.1 hd o (by rw [List.getElem?_toArray] at ho;exact List.mem_of_getElem? ho)) hno _ _ _ _ (wpAny_of_free _ _ _ _ (h hS)))
theorem wp_region_free_veil {l n:Nat} {P:Program} {Q:Exit→Act→World→Prop} (F:Nat→Bool) (S:World→Prop) {id:Nat} {a:Act} {w:World} {ops:List Oper} (hm:P.follows .mixedOrders=true) (hd:ops.all noDefer=true) (hS:S w.drew)
 (h:∀ Q2:Exit→Act→World→Prop,(∀ a w,Q .normal a w→Q2 .normal a w)→(∀ c a a' w,Q2 (.panic c) a w→Q2 (.panic c) a' w)→S w.drew→wpAnyG P .any ops.toArray Q2 F S ops.toArray.size (Array.replicate ops.toArray.size false) a w.drew):(Code.region id ops.toArray true).wpIn (Fence.wide.inRound l) n P Q a w:=by
 refine wpIn_mono (wp_region_free_round (Q:=fun e a w=>match e with | .normal=>Q .normal a w | _=>False) F S hm hd (fun _ _ h=>h) hS (fun hs=>h _ (fun _ _ h=>h) (fun _ _ _ _ h=>h) hs)) (fun e a w h=>?_)
 cases e <;> first | exact h | exact h.elim
def onlyN (Q:Exit→Act→World→Prop):Exit→Act→World→Prop
 | .normal,a,w=>Q .normal a w
 | _,_,_=>False
theorem wp_region_free_N {P:Program} {Q:Exit→Act→World→Prop} {ops:Array Oper} (F:Nat→Bool) (S:World→Prop) {id:Nat} {a:Act} {w:World} (hm:P.follows .mixedOrders=true) (hS:S w.drew)
 (h:S w.drew→wpAnyG P .any ops (onlyN Q) F S ops.size (Array.replicate ops.size false) a w.drew):(Code.region id ops true).wp P Q a w :=
 Go.wp_mono (wp_region_free F S hm hS h) (fun e a w h=>by cases e <;> first | exact h | exact h.elim)
theorem range_pre_inv {pre:List Nat} {j m:Nat} (h:(pre++[j]) <+: List.range m):j=pre.length∧j < m:=by
 obtain ⟨r,hr⟩:=h
 have h1:(List.range m)[pre.length]? = some j:=by rw [← hr];simp
 have hlt:=(List.getElem?_eq_some_iff.1 h1).1
 rw [List.length_range] at hlt
 rw [List.getElem?_range hlt] at h1
 cases h1
 exact ⟨rfl,hlt⟩
def bitB (x:Int) (b:Nat):Bool:=bits .and .u64 (x / 2 ^ b) 1==1
section
variable {tb : Nat} {nv : Value} {ap al : Option Addr} {cp cl : Nat} {P L : List Int} {w : World} {names : List (List UInt8)}
theorem where_name (n:Nat) (hnn:n=P.length+L.length) (hT:TabIs w tb nv ap P.length cp al L.length cl n) (hl:P.length+L.length≤10000) (h0L:0 < L.length) (hP:URow w ap P) (hL:URow w al L) (hnp:ap=none→cp=0) (hnl:al=none→cl=0)
 (hN:Texts w nv names) (nm:List UInt8) (b:Nat) (hb:indexL names nm=(b:Int)) (hb60:b < 60) (ao:Option Addr) (cap:Nat) :
 Calls Tryz.prog 59 #[.pointer (some ⟨tb,0,none⟩),.agg #[.int .i64 3,.string ⟨nm.toArray⟩,.slice ao 0 cap]] w fun e w'=>Chg Nob w w'∧∃ g,w.heap.size≤g∧e = .returned (.slice (some ⟨g,0,none⟩) n n)∧BBlk w' g ((P++L).map (fun x=>bitB x b)):=by
 have hmf:∀ (fn:Fn) (first cap:Array Value) (w:World),(Instr.makeFunc fn first cap).run Tryz.prog w = .ok (.func fn first cap) w:=fun _ _ _ _=>rfl
 have HT:=Lib.hid hT
 have HP:=Lib.hid hP
 have HL:=Lib.hid hL
 have HN:=Lib.hid hN
 have Hnp:=Lib.hid hnp
 have Hnl:=Lib.hid hnl
 have Hb:=Lib.hid hb
 have hn4:n≤10000:=by omega
 have Hnn:=Lib.hid hnn
 clear hT hP hL hN hnp hnl hb hnn
 refine (callsIn_wide (n:=5)).1 (callsIn_of_wp_marks Tryz.func59 rfl trivial ?_ rfl)
 simp only [Tryz.ntmps59,List.size_toArray,List.length_cons,List.length_nil,Nat.reduceAdd,Nat.reduceSub,Array.replicate_succ,Array.replicate_zero,List.push_toArray,List.append_toArray,List.nil_append,List.cons_append]
 refine wpIn_wide.2 ?_
 go_wp2_with fail
 refine wp_loop_rounds 1 ?_
 rw [rounds_succ]
 go_wp2_with fail
 have hcW:Chg Nob w (((w.alloc (.cells #[.pointer (some ⟨tb,0,none⟩)] 97)).alloc (.cells #[.int .i64 3,.string ⟨nm.toArray⟩,.slice ao 0 cap] 24)).alloc (.cells #[.slice none 0 0] 66)):=(((Chg.refl _ _).alloc _).alloc _).alloc _
 have hsW:(((w.alloc (.cells #[.pointer (some ⟨tb,0,none⟩)] 97)).alloc (.cells #[.int .i64 3,.string ⟨nm.toArray⟩,.slice ao 0 cap] 24)).alloc (.cells #[.slice none 0 0] 66)).heap.size=w.heap.size+3:=by simp [World.size_alloc]
 have hp0:(((w.alloc (.cells #[.pointer (some ⟨tb,0,none⟩)] 97)).alloc (.cells #[.int .i64 3,.string ⟨nm.toArray⟩,.slice ao 0 cap] 24)).alloc (.cells #[.slice none 0 0] 66)).cell? ⟨w.heap.size,0,none⟩=some (.pointer (some ⟨tb,0,none⟩)) :=
  ((((Chg.refl Nob (w.alloc (.cells #[.pointer (some ⟨tb,0,none⟩)] 97))).alloc _).alloc _)).cell' (cell_row (heap_alloc_new w (.cells #[.pointer (some ⟨tb,0,none⟩)] 97)) 0 rfl) (fun e=>e)
 have hk1:(((w.alloc (.cells #[.pointer (some ⟨tb,0,none⟩)] 97)).alloc (.cells #[.int .i64 3,.string ⟨nm.toArray⟩,.slice ao 0 cap] 24)).alloc (.cells #[.slice none 0 0] 66)).cell? ⟨w.heap.size+1,1,none⟩=some (.string ⟨nm.toArray⟩):=by
  have h:=heap_alloc_new (w.alloc (.cells #[.pointer (some ⟨tb,0,none⟩)] 97)) (.cells #[.int .i64 3,.string ⟨nm.toArray⟩,.slice ao 0 cap] 24)
  rw [World.size_alloc] at h
  exact ((Chg.refl Nob _).alloc _).cell' (cell_row h 1 rfl) (fun e=>e)
 have HcW:=Lib.hid hcW
 have HsW:=Lib.hid hsW
 have Hp0:=Lib.hid hp0
 clear hcW hsW
 generalize (((w.alloc (.cells #[.pointer (some ⟨tb,0,none⟩)] 97)).alloc (.cells #[.int .i64 3,.string ⟨nm.toArray⟩,.slice ao 0 cap] 24)).alloc (.cells #[.slice none 0 0] 66))=W at *
 obtain ⟨t0,t1,t2,t3⟩:=TabIs.cells (HcW.out.at HT.out (fun e=>e))
 have hS:∀ w',Chg (At1 W.heap.size) W w'→w'.cell? ⟨w.heap.size,0,none⟩=some (.pointer (some ⟨tb,0,none⟩))∧w'.cell? ⟨w.heap.size+1,1,none⟩=some (.string ⟨nm.toArray⟩)∧w'.cell? ⟨tb,0,none⟩=some nv:=fun w' h =>
  ⟨h.cell' hp0 (fun e=>by have e:w.heap.size=W.heap.size:=e;have:=HsW.out;omega),h.cell' hk1 (fun e=>by have e:w.heap.size+1=W.heap.size:=e;have:=HsW.out;omega),h.cell' t0 (fun e=>by have e:tb=W.heap.size:=e;have:=World.block_lt_of_cell? W _ t0;have:tb < W.heap.size:=this;omega)⟩
 have hSx:=Lib.hid hS
 have hix:Hid (∀ V,Chg Nob w V→Calls Tryz.prog 99 #[nv,.string ⟨nm.toArray⟩] V fun e w'=>e = .returned (.int .i64 (b:Int))∧V=w'):=fun V hV=>by
  obtain ⟨a0,cp0,e0,l0,h0⟩:=HN.out
  have:=index_any nv names nm V ⟨a0,cp0,e0,l0,fun j x hj=>by obtain ⟨b1,o1,e1,h1⟩:=h0 j x hj;exact ⟨b1,o1,e1,hV.cell' h1 (fun e=>e)⟩⟩
  rw [Hb.out] at this
  exact this
 clear hS t1 t2 t3
 refine wp_region_free_N (fun j=>j != 8) (fun w'=>w'.cell? ⟨w.heap.size,0,none⟩=some (.pointer (some ⟨tb,0,none⟩))∧w'.cell? ⟨w.heap.size+1,1,none⟩=some (.string ⟨nm.toArray⟩)∧w'.cell? ⟨tb,0,none⟩=some nv) (by kernel_rfl) ⟨hp0,hk1,t0⟩ (fun hHeld=>?_)
 refine tkG 0 hHeld ?_
 refine tkG 1 hHeld ?_
 refine tkG 2 hHeld ?_
 refine tkG 3 hHeld ?_
 refine tkG 4 hHeld ?_
 refine tkG 5 hHeld ?_
 refine wpAnyG_ready (rs:=[6,7]) (by kernel_rfl) (by simp) ?_
 refine AllReadyG.cons rfl (fun K hK=>?_) (AllReadyG.cons rfl (fun K hK=>?_) AllReadyG.nil)
 ·rw [if_pos (by kernel_rfl)]
  go_simp
  (with_reducible refine (hix.out _ (HcW.out.trans1 (Chg.refl Nob W).drew)).mono ?_)
  rintro e w3 ⟨rfl,rfl⟩
  refine hK.out _ _ (fun _=>hHeld) ?_
  clear hK K
  try simp only [Act.put]
  refine rdG 7 fun K hK=>?_
  have hal:Chg Nob W ((W.alloc (.cells #[.int .i64 0] 3)).drew):=((Chg.refl _ _).alloc _).drew
  have hHa:=hSx.out _ hal.any
  go_simp
  refine hK.out _ _ (fun _=>hHa) ?_
  clear hK K
  try simp only [Act.put]
  refine rdG 8 fun K hK=>?_
  have hbD:((W.alloc (.cells #[.int .i64 0] 3)).drew).heap[W.heap.size]? = some (.cells #[.int .i64 0] 3 (0,0)):=heap_alloc_new W _
  have d0:=cell_row hbD 0 (v:= .int .i64 0) rfl
  have f0:((W.alloc (.cells #[.int .i64 0] 3)).drew).frozen? ⟨W.heap.size,0,none⟩=false:=by unfold World.frozen?;rw [hbD];simp
  go_simp
  refine hK.out _ _ (fun h=>absurd h (by decide)) ?_
  clear hK K d0 f0 hbD hHa hHeld hal
  try simp only [Act.put]
  refine wpAnyG_done (by kernel_rfl) ?_ _
  go_simp
  dsimp only [onlyN]
  clear hix hSx hp0 hk1 t0
  have hcV:Chg Nob W ((W.alloc (.cells #[.int .i64 (b:Int)] 3)).drew):=((Chg.refl _ _).alloc _).drew
  have hbV:((W.alloc (.cells #[.int .i64 (b:Int)] 3)).drew).heap[W.heap.size]? = some (.cells #[.int .i64 (b:Int)] 3 (0,0)):=heap_alloc_new W _
  have hsV:((W.alloc (.cells #[.int .i64 (b:Int)] 3)).drew).heap.size=W.heap.size+1:=World.size_alloc W _
  obtain ⟨B,hB⟩:∃ B,B=W.heap.size:=⟨_,rfl⟩
  rw [← hB] at hbV hsV ⊢
  generalize (W.alloc (.cells #[.int .i64 (b:Int)] 3)).drew=V at *
  have HcV:=Lib.hid (HcW.out.trans1 hcV)
  have HbV:=Lib.hid hbV
  have HsV:=Lib.hid hsV
  have HBs:Hid (B=w.heap.size+3):=(show B=w.heap.size+3 by rw [hB,HsW.out])
  have hp0:=hcV.cell' Hp0.out (fun e=>e)
  obtain ⟨t0,t1,t2,t3⟩:=TabIs.cells (HcV.out.at HT.out (fun e=>e))
  have hmk:=make116 n hn4
  clear hcV hbV hsV hB
  have hcU:Chg Nob V ((V.alloc (.cells (bcells (List.replicate n false)) 4)).alloc (.cells #[.slice (some ⟨V.heap.size,0,none⟩) n n] 34)):=((Chg.refl _ _).alloc _).alloc _
  have hbU:BBlk ((V.alloc (.cells (bcells (List.replicate n false)) 4)).alloc (.cells #[.slice (some ⟨V.heap.size,0,none⟩) n n] 34)) V.heap.size (List.replicate n false):=((Chg.refl Nob _).alloc _).at (heap_alloc_new V _) (fun e=>e)
  have hoU:((V.alloc (.cells (bcells (List.replicate n false)) 4)).alloc (.cells #[.slice (some ⟨V.heap.size,0,none⟩) n n] 34)).heap[V.heap.size+1]? = some (.cells #[.slice (some ⟨V.heap.size,0,none⟩) n n] 34 (0,0)):=by
   have h:=heap_alloc_new (V.alloc (.cells (bcells (List.replicate n false)) 4)) (.cells #[.slice (some ⟨V.heap.size,0,none⟩) n n] 34)
   rwa [World.size_alloc] at h
  have hsU:((V.alloc (.cells (bcells (List.replicate n false)) 4)).alloc (.cells #[.slice (some ⟨V.heap.size,0,none⟩) n n] 34)).heap.size=V.heap.size+2:=by simp [World.size_alloc]
  have p0U:=hcU.cell' hp0 (fun e=>e)
  have t1U:=hcU.cell' t1 (fun e=>e)
  have t2U:=hcU.cell' t2 (fun e=>e)
  have HcU:=Lib.hid hcU
  have HbU:=Lib.hid hbU
  have HoU:=Lib.hid hoU
  have HsU:=Lib.hid hsU
  clear hcU hbU hoU hsU
  go_wp2_with fail
  clear hmk t0 t1 t2 t3 hp0 p0U t1U t2U
  generalize ((V.alloc (.cells (bcells (List.replicate n false)) 4)).alloc (.cells #[.slice (some ⟨V.heap.size,0,none⟩) n n] 34))=U at *
  (with_reducible refine (letters_any _ _ _ rfl U).mono ?_)
  rintro e U2 ⟨rfl,hU2⟩
  subst hU2
  go_wp2_with fail
  obtain ⟨R,hR⟩:∃ R,R=V.heap.size:=⟨_,rfl⟩
  have hcZ:Chg Nob U (U.alloc (.cells #[.slice ap P.length cp,.slice al L.length cl] 28)):=(Chg.refl _ _).alloc _
  have hbx:(U.alloc (.cells #[.slice ap P.length cp,.slice al L.length cl] 28)).heap[U.heap.size]? = some (.cells #[.slice ap P.length cp,.slice al L.length cl] 28 (0,0)):=heap_alloc_new U _
  have hsZ:(U.alloc (.cells #[.slice ap P.length cp,.slice al L.length cl] 28)).heap.size=U.heap.size+1:=World.size_alloc U _
  obtain ⟨X,hX⟩:∃ X,X=U.heap.size:=⟨_,rfl⟩
  rw [← hX] at hbx hsZ ⊢
  have hRw:w.heap.size≤R:=by have:=HsV.out;have:=HBs.out;omega
  have hRB:B < R:=by have:=HsV.out;omega
  have hXR:X=R+2:=by rw [hX,HsU.out,hR]
  rw [← hR] at HbU HoU ⊢
  generalize (U.alloc (.cells #[.slice ap P.length cp,.slice al L.length cl] 28))=Z at *
  have hcwZ:Chg Nob w Z:=(HcV.out.trans1 HcU.out).trans1 hcZ
  have hit:=letters_iter (fun _=>False) 0 4 (by omega) (fun k=>k=R) X Z hbx hl h0L (HP.out.nob hcwZ) (HL.out.nob hcwZ) Hnp.out Hnl.out (by rintro k rfl;omega) (fun e=>e)
  have hrow0:BBlk Z R (List.replicate n false):=hcZ.at HbU.out (fun e=>e)
  have hout0:=hcZ.at HoU.out (fun e=>e)
  have hbit0:=hcZ.at (HcU.out.at HbV.out (fun e=>e)) (fun e=>e)
  have HcwZ:=Lib.hid hcwZ
  clear hcZ hbx HcU HbU HoU HsU HcV HbV hcwZ hX hR
  refine wpIn_wide.1 (range_iter (E:=fun _=>False) (n0:=0) (n:=5) (gf:=150) (by omega) rfl (enters_of Tryz.func150 (by kernel_rfl) rfl) hit (by rintro k rfl;omega) (fun _=>rfl)
   (fun pre W=>(∃ L',BBlk W R L'∧L'.length=n∧∀ j,j < pre.length→L'[j]? = some (bitB (ltr (P++L) j) b))∧W.heap[R+1]? = some (.cells #[.slice (some ⟨R,0,none⟩) n n] 34 (0,0))∧W.heap[B]? = some (.cells #[.int .i64 (b:Int)] 3 (0,0))∧Chg Nob w W)
   (fun _ _ _=>False) ?_ (fun _ _ _ _ h _=>h) ⟨⟨_,hrow0,List.length_replicate,fun j h=>absurd h (Nat.not_lt_zero j)⟩,hout0,hbit0,HcwZ.out⟩ ?_ ?_ (fun _ _ _ _ h _=>h.elim))
  ·rintro pre A A' ⟨⟨L',h1,h2,h3⟩,h4,h5,h6⟩ hs
   exact ⟨⟨L',Chg.at hs h1 (fun e=>by have:=e.1;omega),h2,h3⟩,Chg.at hs h4 (fun e=>by have:=e.1;omega),Chg.at hs h5 (fun e=>by have:=e.1;omega),chg_steps h6 hs (by omega)⟩
  ·rintro l pre j W1 ⟨⟨L',h1,h2,h3⟩,h4,h5,h6⟩ hpre hsz
   obtain ⟨hjl,hjn⟩:=range_pre_inv hpre
   rw [← Hnn.out] at hjn
   have Hjl:=Lib.hid hjl
   clear hjl
   obtain ⟨x,hx⟩:∃ x,x=ltr (P++L) j:=⟨_,rfl⟩
   rw [← hx]
   have Hx:=Lib.hid hx
   have hji:(j:Int) < (n:Int):=by omega
   have hj0:(0:Int)≤(j:Int):=by omega
   simp only [zip2,List.setIfInBounds_toArray,List.set_cons_succ,List.set_cons_zero]
   clear hx hpre hit
   gi_wp2
   refine ⟨Keeps.of_chg (Chg.refl _ _),fun w₂ hc2 hst2=>?_⟩
   have hrow2:BBlk w₂ R L':=Chg.at hst2 h1 (fun e=>by have:=e.1;omega)
   have hout2:=Chg.at hst2 h4 (fun e=>by have:=e.1;omega)
   have hbit2:=Chg.at hst2 h5 (fun e=>by have:=e.1;omega)
   have hcw2:Chg Nob w w₂:=chg_steps h6 hst2 (by omega)
   have HL3:Hid (∀ u,u=bitB x b→((L'.set j u).length=n∧∀ i,i < (pre++[j]).length→(L'.set j u)[i]? = some (bitB (ltr (P++L) i) b))):=(show ∀ u,u=bitB x b→_ from fun u hu=>⟨by rw [List.length_set];exact h2,fun i hi=>by
    have hjl:=Hjl.out
    rw [List.length_append,List.length_singleton] at hi
    by_cases e:i=j
    ·subst e;rw [List.getElem?_set_self (by omega),hu,Hx.out]
    ·rw [List.getElem?_set_ne (Ne.symm e)];exact h3 i (by omega)⟩)
   obtain ⟨v0,hv0⟩:∃ v0,L'[j]? = some v0:=⟨_,List.getElem?_eq_getElem (by omega)⟩
   have o0:=cell_row hout2 0 (v:= .slice (some ⟨R,0,none⟩) n n) rfl
   have b0:=cell_row hbit2 0 (v:= .int .i64 (b:Int)) rfl
   have r0:=hrow2.cell hv0
   have Hrow2:=Lib.hid hrow2
   have Hout2:=Lib.hid hout2
   have Hbit2:=Lib.hid hbit2
   have Hcw2:=Lib.hid hcw2
   clear h1 h2 h3 h4 h5 h6 hrow2 hout2 hbit2 hcw2 hc2 hst2 hv0
   have hb0:(0:Int)≤(b:Int):=by omega
   have hb1:(b:Int) < 60:=by omega
   gi_wp2
   refine wp_region_free_veil (fun j=>j != 8) (fun w'=>w'.cell? ⟨R+1,0,none⟩=some (.slice (some ⟨R,0,none⟩) n n)∧w'.cell? ⟨B,0,none⟩=some (.int .i64 (b:Int))∧w'.cell? ⟨R,j,none⟩=some (.bool v0)) (by kernel_rfl) (by kernel_rfl) ⟨o0,b0,r0⟩ (fun Q2 hQ2 hpan hHeld=>?_)
   refine wpAnyG_take (i:=0) (v:=?_) rfl (by kernel_rfl) (fun c _ w h=>hpan c _ _ w h) (Or.inl ⟨by rfl,?_⟩) hHeld ?_
   rotate_left
   ·intro w hSw;obtain ⟨o0,b0,r0⟩:=hSw;go_simp;(try (with_reducible rfl))
   simp only [Act.put,List.setIfInBounds_toArray]
   refine wpAnyG_take (i:=1) (v:=?_) rfl (by kernel_rfl) (fun c _ w h=>hpan c _ _ w h) (Or.inl ⟨by rfl,?_⟩) hHeld ?_
   rotate_left
   ·intro w hSw;obtain ⟨o0,b0,r0⟩:=hSw;go_simp;(try (with_reducible rfl))
   try simp only [Act.put]
   refine wpAnyG_take (i:=2) (v:=?_) rfl (by kernel_rfl) (fun c _ w h=>hpan c _ _ w h) (Or.inl ⟨by rfl,?_⟩) hHeld ?_
   rotate_left
   ·intro w hSw;obtain ⟨o0,b0,r0⟩:=hSw;go_simp;(try (with_reducible rfl))
   try simp only [Act.put]
   refine wpAnyG_take (i:=3) (v:=?_) rfl (by kernel_rfl) (fun c _ w h=>hpan c _ _ w h) (Or.inl ⟨by rfl,?_⟩) hHeld ?_
   rotate_left
   ·intro w hSw;obtain ⟨o0,b0,r0⟩:=hSw;go_simp;(try (with_reducible rfl))
   try simp only [Act.put]
   refine wpAnyG_take (i:=4) (v:=?_) rfl (by kernel_rfl) (fun c _ w h=>hpan c _ _ w h) (Or.inl ⟨by kernel_rfl,?_⟩) hHeld ?_
   rotate_left
   ·intro w hSw;obtain ⟨o0,b0,r0⟩:=hSw;go_simp;(try go_bits);(try (with_reducible rfl))
   try simp only [Act.put]
   refine wpAnyG_take (i:=5) (v:=?_) rfl (by kernel_rfl) (fun c _ w h=>hpan c _ _ w h) (Or.inl ⟨by kernel_rfl,?_⟩) hHeld ?_
   rotate_left
   ·intro w hSw;obtain ⟨o0,b0,r0⟩:=hSw;go_simp;(try go_bits);(try (with_reducible rfl))
   try simp only [Act.put]
   refine wpAnyG_take (i:=6) (v:=?_) rfl (by kernel_rfl) (fun c _ w h=>hpan c _ _ w h) (Or.inl ⟨by kernel_rfl,?_⟩) hHeld ?_
   rotate_left
   ·intro w hSw;obtain ⟨o0,b0,r0⟩:=hSw;go_simp;(try (with_reducible rfl))
   try simp only [Act.put]
   refine wpAnyG_take (i:=7) (v:=?_) rfl (by kernel_rfl) (fun c _ w h=>hpan c _ _ w h) (Or.inl ⟨by kernel_rfl,?_⟩) hHeld ?_
   rotate_left
   ·intro w hSw;obtain ⟨o0,b0,r0⟩:=hSw;go_simp;(try (with_reducible rfl))
   try simp only [Act.put]
   refine rdG 8 fun K hK=>?_
   have f3:=Hrow2.out.free j
   have hset:Chg (fun k=>k=R) w₂ ((w₂.setCell ⟨R,j,none⟩ (.bool (bits .and .u64 (x / 2 ^ b) 1==1))).drew):=((Chg.refl (fun k=>k=R) w₂).setCell (p:=⟨R,j,none⟩) (fun _=>rfl) _).drew
   have Hset:=Lib.hid hset
   have HR1:Hid (BBlk ((w₂.setCell ⟨R,j,none⟩ (.bool (bits .and .u64 (x / 2 ^ b) 1==1))).drew) R (L'.set j (bits .and .u64 (x / 2 ^ b) 1==1))):=(show BBlk _ R _ from Hrow2.out.set j _)
   have Ho1:=Lib.hid (hset.at Hout2.out (fun e=>by have e:R+1=R:=e;omega))
   have Hb1:=Lib.hid (hset.at Hbit2.out (fun e=>by have e:B=R:=e;omega))
   have Hc1:Hid (Chg Nob w ((w₂.setCell ⟨R,j,none⟩ (.bool (bits .and .u64 (x / 2 ^ b) 1==1))).drew)):=(show Chg Nob w _ from Hcw2.out.trans hset (fun i hi e=>by have e:i=R:=e;omega))
   clear hset
   go_simp
   refine hK.out _ _ (fun h=>absurd h (by decide)) ?_
   clear hK K
   try simp only [Act.put]
   refine wpAnyG_done (by kernel_rfl) (hQ2 _ _ ?_) _
   clear hQ2 hpan o0 b0 r0 f3 hHeld
   go_simp
   exact ⟨Keeps.of_chg Hset.out,⟨_,HR1.out,HL3.out _ rfl⟩,Ho1.out,Hb1.out,Hc1.out⟩
  ·rintro W1 ⟨⟨L',h1,h2,h3⟩,h4,h5,h6⟩ hd
   have k0:=cell_row h4 0 (v:= .slice (some ⟨R,0,none⟩) n n) rfl
   have hLe:L'=(P++L).map (fun x=>bitB x b):=by
    refine List.ext_getElem? (fun q=>?_)
    rcases Nat.lt_or_ge q n with hq | hq
    ·rw [h3 q (by rw [List.length_range,← Hnn.out];exact hq),List.getElem?_map]
     have hq2:q < (P++L).length:=by rw [List.length_append,← Hnn.out];exact hq
     unfold ltr
     rw [List.getElem?_eq_getElem hq2];rfl
    ·rw [List.getElem?_eq_none_iff.2 (by omega),List.getElem?_eq_none_iff.2 (by rw [List.length_map,List.length_append,← Hnn.out];exact hq)]
   rw [hLe] at h1
   have H1:=Lib.hid h1
   have H6:=Lib.hid h6
   clear h1 h2 h3 h4 h5 h6 hLe hit
   go_wp2_with fail
   refine leaves_one hd (fun W' hc'=>⟨_,results_tmp rfl _ _ _,H6.out.trans hc' (fun i hi e=>by have e:i=_:=e;omega),R,hRw,rfl,hc'.at H1.out (fun e=>by have e:R=_:=e;omega)⟩)
 ·rw [if_pos (by kernel_rfl)]
  have hal:Chg Nob W ((W.alloc (.cells #[.int .i64 0] 3)).drew):=((Chg.refl _ _).alloc _).drew
  have hHa:=hSx.out _ hal.any
  go_simp
  refine hK.out _ _ (fun _=>hHa) ?_
  clear hK K
  try simp only [Act.put]
  refine rdG 6 fun K hK=>?_
  go_simp
  (with_reducible refine (hix.out _ (HcW.out.trans1 hal)).mono ?_)
  rintro e w3 ⟨rfl,rfl⟩
  refine hK.out _ _ (fun _=>hHa) ?_
  clear hK K
  try simp only [Act.put]
  refine rdG 8 fun K hK=>?_
  have hbD:((W.alloc (.cells #[.int .i64 0] 3)).drew).heap[W.heap.size]? = some (.cells #[.int .i64 0] 3 (0,0)):=heap_alloc_new W _
  have d0:=cell_row hbD 0 (v:= .int .i64 0) rfl
  have f0:((W.alloc (.cells #[.int .i64 0] 3)).drew).frozen? ⟨W.heap.size,0,none⟩=false:=by unfold World.frozen?;rw [hbD];simp
  go_simp
  refine hK.out _ _ (fun h=>absurd h (by decide)) ?_
  clear hK K d0 f0 hbD hHa hHeld hal
  try simp only [Act.put]
  refine wpAnyG_done (by kernel_rfl) ?_ _
  go_simp
  dsimp only [onlyN]
  clear hix hSx hp0 hk1 t0
  have hcV:Chg Nob W ((W.alloc (.cells #[.int .i64 (b:Int)] 3)).drew):=((Chg.refl _ _).alloc _).drew
  have hbV:((W.alloc (.cells #[.int .i64 (b:Int)] 3)).drew).heap[W.heap.size]? = some (.cells #[.int .i64 (b:Int)] 3 (0,0)):=heap_alloc_new W _
  have hsV:((W.alloc (.cells #[.int .i64 (b:Int)] 3)).drew).heap.size=W.heap.size+1:=World.size_alloc W _
  obtain ⟨B,hB⟩:∃ B,B=W.heap.size:=⟨_,rfl⟩
  rw [← hB] at hbV hsV ⊢
  generalize (W.alloc (.cells #[.int .i64 (b:Int)] 3)).drew=V at *
  have HcV:=Lib.hid (HcW.out.trans1 hcV)
  have HbV:=Lib.hid hbV
  have HsV:=Lib.hid hsV
  have HBs:Hid (B=w.heap.size+3):=(show B=w.heap.size+3 by rw [hB,HsW.out])
  have hp0:=hcV.cell' Hp0.out (fun e=>e)
  obtain ⟨t0,t1,t2,t3⟩:=TabIs.cells (HcV.out.at HT.out (fun e=>e))
  have hmk:=make116 n hn4
  clear hcV hbV hsV hB
  have hcU:Chg Nob V ((V.alloc (.cells (bcells (List.replicate n false)) 4)).alloc (.cells #[.slice (some ⟨V.heap.size,0,none⟩) n n] 34)):=((Chg.refl _ _).alloc _).alloc _
  have hbU:BBlk ((V.alloc (.cells (bcells (List.replicate n false)) 4)).alloc (.cells #[.slice (some ⟨V.heap.size,0,none⟩) n n] 34)) V.heap.size (List.replicate n false):=((Chg.refl Nob _).alloc _).at (heap_alloc_new V _) (fun e=>e)
  have hoU:((V.alloc (.cells (bcells (List.replicate n false)) 4)).alloc (.cells #[.slice (some ⟨V.heap.size,0,none⟩) n n] 34)).heap[V.heap.size+1]? = some (.cells #[.slice (some ⟨V.heap.size,0,none⟩) n n] 34 (0,0)):=by
   have h:=heap_alloc_new (V.alloc (.cells (bcells (List.replicate n false)) 4)) (.cells #[.slice (some ⟨V.heap.size,0,none⟩) n n] 34)
   rwa [World.size_alloc] at h
  have hsU:((V.alloc (.cells (bcells (List.replicate n false)) 4)).alloc (.cells #[.slice (some ⟨V.heap.size,0,none⟩) n n] 34)).heap.size=V.heap.size+2:=by simp [World.size_alloc]
  have p0U:=hcU.cell' hp0 (fun e=>e)
  have t1U:=hcU.cell' t1 (fun e=>e)
  have t2U:=hcU.cell' t2 (fun e=>e)
  have HcU:=Lib.hid hcU
  have HbU:=Lib.hid hbU
  have HoU:=Lib.hid hoU
  have HsU:=Lib.hid hsU
  clear hcU hbU hoU hsU
  go_wp2_with fail
  clear hmk t0 t1 t2 t3 hp0 p0U t1U t2U
  generalize ((V.alloc (.cells (bcells (List.replicate n false)) 4)).alloc (.cells #[.slice (some ⟨V.heap.size,0,none⟩) n n] 34))=U at *
  (with_reducible refine (letters_any _ _ _ rfl U).mono ?_)
  rintro e U2 ⟨rfl,hU2⟩
  subst hU2
  go_wp2_with fail
  obtain ⟨R,hR⟩:∃ R,R=V.heap.size:=⟨_,rfl⟩
  have hcZ:Chg Nob U (U.alloc (.cells #[.slice ap P.length cp,.slice al L.length cl] 28)):=(Chg.refl _ _).alloc _
  have hbx:(U.alloc (.cells #[.slice ap P.length cp,.slice al L.length cl] 28)).heap[U.heap.size]? = some (.cells #[.slice ap P.length cp,.slice al L.length cl] 28 (0,0)):=heap_alloc_new U _
  have hsZ:(U.alloc (.cells #[.slice ap P.length cp,.slice al L.length cl] 28)).heap.size=U.heap.size+1:=World.size_alloc U _
  obtain ⟨X,hX⟩:∃ X,X=U.heap.size:=⟨_,rfl⟩
  rw [← hX] at hbx hsZ ⊢
  have hRw:w.heap.size≤R:=by have:=HsV.out;have:=HBs.out;omega
  have hRB:B < R:=by have:=HsV.out;omega
  have hXR:X=R+2:=by rw [hX,HsU.out,hR]
  rw [← hR] at HbU HoU ⊢
  generalize (U.alloc (.cells #[.slice ap P.length cp,.slice al L.length cl] 28))=Z at *
  have hcwZ:Chg Nob w Z:=(HcV.out.trans1 HcU.out).trans1 hcZ
  have hit:=letters_iter (fun _=>False) 0 4 (by omega) (fun k=>k=R) X Z hbx hl h0L (HP.out.nob hcwZ) (HL.out.nob hcwZ) Hnp.out Hnl.out (by rintro k rfl;omega) (fun e=>e)
  have hrow0:BBlk Z R (List.replicate n false):=hcZ.at HbU.out (fun e=>e)
  have hout0:=hcZ.at HoU.out (fun e=>e)
  have hbit0:=hcZ.at (HcU.out.at HbV.out (fun e=>e)) (fun e=>e)
  have HcwZ:=Lib.hid hcwZ
  clear hcZ hbx HcU HbU HoU HsU HcV HbV hcwZ hX hR
  refine wpIn_wide.1 (range_iter (E:=fun _=>False) (n0:=0) (n:=5) (gf:=150) (by omega) rfl (enters_of Tryz.func150 (by kernel_rfl) rfl) hit (by rintro k rfl;omega) (fun _=>rfl)
   (fun pre W=>(∃ L',BBlk W R L'∧L'.length=n∧∀ j,j < pre.length→L'[j]? = some (bitB (ltr (P++L) j) b))∧W.heap[R+1]? = some (.cells #[.slice (some ⟨R,0,none⟩) n n] 34 (0,0))∧W.heap[B]? = some (.cells #[.int .i64 (b:Int)] 3 (0,0))∧Chg Nob w W)
   (fun _ _ _=>False) ?_ (fun _ _ _ _ h _=>h) ⟨⟨_,hrow0,List.length_replicate,fun j h=>absurd h (Nat.not_lt_zero j)⟩,hout0,hbit0,HcwZ.out⟩ ?_ ?_ (fun _ _ _ _ h _=>h.elim))
  ·rintro pre A A' ⟨⟨L',h1,h2,h3⟩,h4,h5,h6⟩ hs
   exact ⟨⟨L',Chg.at hs h1 (fun e=>by have:=e.1;omega),h2,h3⟩,Chg.at hs h4 (fun e=>by have:=e.1;omega),Chg.at hs h5 (fun e=>by have:=e.1;omega),chg_steps h6 hs (by omega)⟩
  ·rintro l pre j W1 ⟨⟨L',h1,h2,h3⟩,h4,h5,h6⟩ hpre hsz
   obtain ⟨hjl,hjn⟩:=range_pre_inv hpre
   rw [← Hnn.out] at hjn
   have Hjl:=Lib.hid hjl
   clear hjl
   obtain ⟨x,hx⟩:∃ x,x=ltr (P++L) j:=⟨_,rfl⟩
   rw [← hx]
   have Hx:=Lib.hid hx
   have hji:(j:Int) < (n:Int):=by omega
   have hj0:(0:Int)≤(j:Int):=by omega
   simp only [zip2,List.setIfInBounds_toArray,List.set_cons_succ,List.set_cons_zero]
   clear hx hpre hit
   gi_wp2
   refine ⟨Keeps.of_chg (Chg.refl _ _),fun w₂ hc2 hst2=>?_⟩
   have hrow2:BBlk w₂ R L':=Chg.at hst2 h1 (fun e=>by have:=e.1;omega)
   have hout2:=Chg.at hst2 h4 (fun e=>by have:=e.1;omega)
   have hbit2:=Chg.at hst2 h5 (fun e=>by have:=e.1;omega)
   have hcw2:Chg Nob w w₂:=chg_steps h6 hst2 (by omega)
   have HL3:Hid (∀ u,u=bitB x b→((L'.set j u).length=n∧∀ i,i < (pre++[j]).length→(L'.set j u)[i]? = some (bitB (ltr (P++L) i) b))):=(show ∀ u,u=bitB x b→_ from fun u hu=>⟨by rw [List.length_set];exact h2,fun i hi=>by
    have hjl:=Hjl.out
    rw [List.length_append,List.length_singleton] at hi
    by_cases e:i=j
    ·subst e;rw [List.getElem?_set_self (by omega),hu,Hx.out]
    ·rw [List.getElem?_set_ne (Ne.symm e)];exact h3 i (by omega)⟩)
   obtain ⟨v0,hv0⟩:∃ v0,L'[j]? = some v0:=⟨_,List.getElem?_eq_getElem (by omega)⟩
   have o0:=cell_row hout2 0 (v:= .slice (some ⟨R,0,none⟩) n n) rfl
   have b0:=cell_row hbit2 0 (v:= .int .i64 (b:Int)) rfl
   have r0:=hrow2.cell hv0
   have Hrow2:=Lib.hid hrow2
   have Hout2:=Lib.hid hout2
   have Hbit2:=Lib.hid hbit2
   have Hcw2:=Lib.hid hcw2
   clear h1 h2 h3 h4 h5 h6 hrow2 hout2 hbit2 hcw2 hc2 hst2 hv0
   have hb0:(0:Int)≤(b:Int):=by omega
   have hb1:(b:Int) < 60:=by omega
   gi_wp2
   refine wp_region_free_veil (fun j=>j != 8) (fun w'=>w'.cell? ⟨R+1,0,none⟩=some (.slice (some ⟨R,0,none⟩) n n)∧w'.cell? ⟨B,0,none⟩=some (.int .i64 (b:Int))∧w'.cell? ⟨R,j,none⟩=some (.bool v0)) (by kernel_rfl) (by kernel_rfl) ⟨o0,b0,r0⟩ (fun Q2 hQ2 hpan hHeld=>?_)
   refine wpAnyG_take (i:=0) (v:=?_) rfl (by kernel_rfl) (fun c _ w h=>hpan c _ _ w h) (Or.inl ⟨by rfl,?_⟩) hHeld ?_
   rotate_left
   ·intro w hSw;obtain ⟨o0,b0,r0⟩:=hSw;go_simp;(try (with_reducible rfl))
   simp only [Act.put,List.setIfInBounds_toArray]
   refine wpAnyG_take (i:=1) (v:=?_) rfl (by kernel_rfl) (fun c _ w h=>hpan c _ _ w h) (Or.inl ⟨by rfl,?_⟩) hHeld ?_
   rotate_left
   ·intro w hSw;obtain ⟨o0,b0,r0⟩:=hSw;go_simp;(try (with_reducible rfl))
   try simp only [Act.put]
   refine wpAnyG_take (i:=2) (v:=?_) rfl (by kernel_rfl) (fun c _ w h=>hpan c _ _ w h) (Or.inl ⟨by rfl,?_⟩) hHeld ?_
   rotate_left
   ·intro w hSw;obtain ⟨o0,b0,r0⟩:=hSw;go_simp;(try (with_reducible rfl))
   try simp only [Act.put]
   refine wpAnyG_take (i:=3) (v:=?_) rfl (by kernel_rfl) (fun c _ w h=>hpan c _ _ w h) (Or.inl ⟨by rfl,?_⟩) hHeld ?_
   rotate_left
   ·intro w hSw;obtain ⟨o0,b0,r0⟩:=hSw;go_simp;(try (with_reducible rfl))
   try simp only [Act.put]
   refine wpAnyG_take (i:=4) (v:=?_) rfl (by kernel_rfl) (fun c _ w h=>hpan c _ _ w h) (Or.inl ⟨by kernel_rfl,?_⟩) hHeld ?_
   rotate_left
   ·intro w hSw;obtain ⟨o0,b0,r0⟩:=hSw;go_simp;(try go_bits);(try (with_reducible rfl))
   try simp only [Act.put]
   refine wpAnyG_take (i:=5) (v:=?_) rfl (by kernel_rfl) (fun c _ w h=>hpan c _ _ w h) (Or.inl ⟨by kernel_rfl,?_⟩) hHeld ?_
   rotate_left
   ·intro w hSw;obtain ⟨o0,b0,r0⟩:=hSw;go_simp;(try go_bits);(try (with_reducible rfl))
   try simp only [Act.put]
   refine wpAnyG_take (i:=6) (v:=?_) rfl (by kernel_rfl) (fun c _ w h=>hpan c _ _ w h) (Or.inl ⟨by kernel_rfl,?_⟩) hHeld ?_
   rotate_left
   ·intro w hSw;obtain ⟨o0,b0,r0⟩:=hSw;go_simp;(try (with_reducible rfl))
   try simp only [Act.put]
   refine wpAnyG_take (i:=7) (v:=?_) rfl (by kernel_rfl) (fun c _ w h=>hpan c _ _ w h) (Or.inl ⟨by kernel_rfl,?_⟩) hHeld ?_
   rotate_left
   ·intro w hSw;obtain ⟨o0,b0,r0⟩:=hSw;go_simp;(try (with_reducible rfl))
   try simp only [Act.put]
   refine rdG 8 fun K hK=>?_
   have f3:=Hrow2.out.free j
   have hset:Chg (fun k=>k=R) w₂ ((w₂.setCell ⟨R,j,none⟩ (.bool (bits .and .u64 (x / 2 ^ b) 1==1))).drew):=((Chg.refl (fun k=>k=R) w₂).setCell (p:=⟨R,j,none⟩) (fun _=>rfl) _).drew
   have Hset:=Lib.hid hset
   have HR1:Hid (BBlk ((w₂.setCell ⟨R,j,none⟩ (.bool (bits .and .u64 (x / 2 ^ b) 1==1))).drew) R (L'.set j (bits .and .u64 (x / 2 ^ b) 1==1))):=(show BBlk _ R _ from Hrow2.out.set j _)
   have Ho1:=Lib.hid (hset.at Hout2.out (fun e=>by have e:R+1=R:=e;omega))
   have Hb1:=Lib.hid (hset.at Hbit2.out (fun e=>by have e:B=R:=e;omega))
   have Hc1:Hid (Chg Nob w ((w₂.setCell ⟨R,j,none⟩ (.bool (bits .and .u64 (x / 2 ^ b) 1==1))).drew)):=(show Chg Nob w _ from Hcw2.out.trans hset (fun i hi e=>by have e:i=R:=e;omega))
   clear hset
   go_simp
   refine hK.out _ _ (fun h=>absurd h (by decide)) ?_
   clear hK K
   try simp only [Act.put]
   refine wpAnyG_done (by kernel_rfl) (hQ2 _ _ ?_) _
   clear hQ2 hpan o0 b0 r0 f3 hHeld
   go_simp
   exact ⟨Keeps.of_chg Hset.out,⟨_,HR1.out,HL3.out _ rfl⟩,Ho1.out,Hb1.out,Hc1.out⟩
  ·rintro W1 ⟨⟨L',h1,h2,h3⟩,h4,h5,h6⟩ hd
   have k0:=cell_row h4 0 (v:= .slice (some ⟨R,0,none⟩) n n) rfl
   have hLe:L'=(P++L).map (fun x=>bitB x b):=by
    refine List.ext_getElem? (fun q=>?_)
    rcases Nat.lt_or_ge q n with hq | hq
    ·rw [h3 q (by rw [List.length_range,← Hnn.out];exact hq),List.getElem?_map]
     have hq2:q < (P++L).length:=by rw [List.length_append,← Hnn.out];exact hq
     unfold ltr
     rw [List.getElem?_eq_getElem hq2];rfl
    ·rw [List.getElem?_eq_none_iff.2 (by omega),List.getElem?_eq_none_iff.2 (by rw [List.length_map,List.length_append,← Hnn.out];exact hq)]
   rw [hLe] at h1
   have H1:=Lib.hid h1
   have H6:=Lib.hid h6
   clear h1 h2 h3 h4 h5 h6 hLe hit
   go_wp2_with fail
   refine leaves_one hd (fun W' hc'=>⟨_,results_tmp rfl _ _ _,H6.out.trans hc' (fun i hi e=>by have e:i=_:=e;omega),R,hRw,rfl,hc'.at H1.out (fun e=>by have e:R=_:=e;omega)⟩)
end
set_option maxRecDepth 512
def pairI (x y:Mvi):Option Mvi:=if bits .and .u64 (bits .or .u64 x.yes y.yes) (bits .or .u64 x.no y.no)=0 then some ⟨bits .or .u64 x.yes y.yes,bits .or .u64 x.no y.no,joinI x.to y.to⟩ else none
def atP (a b:List Mvi) (p:Nat):Option Mvi:=pairI (a.getD (p / b.length) m0) (b.getD (p % b.length) m0)
def prodN (a b:List Mvi) (k:Nat):List Mvi:=(List.range k).filterMap (atP a b)
def pairsI (a b:List Mvi):List Mvi:=prodN a b (a.length * b.length)
theorem prodN_succ (a b:List Mvi) (k:Nat):prodN a b (k+1)=prodN a b k++(atP a b k).toList:=by
 unfold prodN
 rw [List.range_succ,List.filterMap_append]
 congr 1
theorem prodN_le (a b:List Mvi) {k m:Nat} (h:k≤m):(prodN a b k).length≤(prodN a b m).length:=by
 induction m with
 | zero=>rw [Nat.le_zero.1 h];exact Nat.le_refl _
 | succ m ih =>
   rcases Nat.lt_or_ge m k with h2 | h2
   ·rw [show k=m+1 by omega];exact Nat.le_refl _
   ·rw [prodN_succ,List.length_append]
    have:=ih h2
    omega
theorem MOwn.typed {S:Nat→Prop} {W W':World} {lo:Nat} {sl:Value} {ms:List Mvi} {xs:List MvS} (h:MOwn W lo sl ms xs) (hc:Chg S W W') (hn:∀ q,sl.ownBlock=some q→¬ S q) (hs:∀ q,S q→∀ cs m,W.heap[q]?≠some (.cells cs 3 m)):MOwn W' lo sl ms xs :=
 ⟨ownsRow_chg h.own hc hn,h.fst,fun x hx=>by obtain ⟨a,b,c⟩:=h.tos x hx;exact ⟨a,b.typed hc hs,c⟩⟩
theorem MOwn.push2 {W:World} {lo:Nat} {sl:Value} {ms:List Mvi} {xs:List MvS} (h:MOwn W lo sl ms xs) (hlo:lo≤W.heap.size) (hn:ms.length≤1000000) (x:MvS) (hx:x.1.to.length≤2000000∧TRow W 0 x.2.1 x.1.to∧(x.2.1=none→x.2.2=0)) :
 ∃ sl' W',(Builtin.append_ #[67,67] 67 #[sl,.slice (some ⟨W.heap.size,0,none⟩) 1 1]).run Tryz.prog (W.alloc (.cells (cellsM x).toArray 75)) = .ok sl' W'∧MOwn W' lo sl' (ms++[x.1]) (xs++[x])∧Chg (fun q=>sl.ownBlock=some q) W W'∧(∃ q c,sl' = .slice (some ⟨q,0,none⟩) (ms.length+1) c∧q < W'.heap.size∧(sl.ownBlock=some q∨W.heap.size≤q)):=by
 have hA:Chg Nob W (W.alloc (.cells (cellsM x).toArray 75)):=(Chg.refl _ _).alloc _
 obtain ⟨g',cap,W',hrun,hrow,hgr,hlies,hg'⟩:=append75 (ownsRow_chg h.own hA (fun _ _ e=>e)) (by rw [World.size_alloc];omega) (by omega) (by rfl) (cellsM_one x) (heap_alloc_new W (.cells (cellsM x).toArray 75))
 have hc:Chg (fun q=>sl.ownBlock=some q) W W':=(hA.any (S:=fun q=>sl.ownBlock=some q)).trans1 ((Chg.refl _ _).grown hgr (fun q hq _=>hq))
 refine ⟨_,W',hrun,⟨?_,by rw [List.map_append,h.fst];rfl,fun y hy=>?_⟩,hc,g',cap,rfl,hg',hlies.imp id (fun e=>by rw [World.size_alloc] at e;omega)⟩
 ·rw [List.length_append,List.flatMap_append,List.flatMap_cons,List.flatMap_nil,List.append_nil]
  exact hrow
 ·have hty:∀ q,sl.ownBlock=some q→∀ cs m,W.heap[q]?≠some (.cells cs 3 m):=fun q hq cs m hb=>by
   obtain ⟨cs',m',hb2⟩:=ownsRow_block h.own q hq
   rw [hb] at hb2
   simp at hb2
  rcases List.mem_append.1 hy with hy | hy
  ·obtain ⟨a,b,c⟩:=h.tos y hy
   exact ⟨a,b.typed hc hty,c⟩
  ·obtain rfl:=List.mem_singleton.1 hy
   exact ⟨hx.1,hx.2.1.typed hc hty,hx.2.2⟩
theorem TRow.kept {S:Nat→Prop} {W W':World} {lo:Nat} {ao:Option Addr} {l:List Int} (h:TRow W lo ao l) (hc:Chg S W W') (hs:l≠[]→∀ a,ao=some a→¬ S a.block):TRow W' lo ao l:=by
 refine ⟨fun j x hj=>?_,fun hne=>?_⟩
 ·have hne:l≠[]:=fun e=>by rw [e] at hj;simp at hj
  obtain ⟨a,e,c⟩:=h.1 j x hj
  refine ⟨a,e,hc.cell' c ?_⟩
  have:=hs hne a e
  unfold Addr.add
  split <;> exact this
 ·obtain ⟨g,cs,m,e,hlo,hb⟩:=h.2 hne
  exact ⟨g,cs,m,e,hlo,hc.at hb (hs hne _ e)⟩
theorem MOwn.low {W:World} {lo lo':Nat} {sl:Value} {ms:List Mvi} {xs:List MvS} (h:MOwn W lo sl ms xs) (hl:lo'≤lo):MOwn W lo' sl ms xs :=
 ⟨⟨h.own.1,h.own.2.imp id (fun ⟨g,cap,cur,e,hb,rest⟩=>⟨g,cap,cur,e,Nat.le_trans hl hb,rest⟩)⟩,h.fst,h.tos⟩
structure DOwn (D:Nat→Prop) (W:World) (lo:Nat) (ob:Nat) (sl:Value) (ms:List Mvi) (xs:List MvS):Prop where
 lt:∀ q,D q→q < W.heap.size
 box:D ob∧W.heap[ob]? = some (.cells #[sl] 67 (0,0))
 own:MOwn W lo sl ms xs
 ownD:∀ q,sl.ownBlock=some q→D q
 tosD:∀ x∈xs,x.1.to≠[]→∀ a,x.2.1=some a→D a.block
theorem DOwn.keep {D S:Nat→Prop} {W W':World} {lo ob:Nat} {sl:Value} {ms:List Mvi} {xs:List MvS} (h:DOwn D W lo ob sl ms xs) (hc:Chg S W W') (hs:∀ q,S q→¬ D q):DOwn D W' lo ob sl ms xs:=by
 have hD:∀ q,D q→¬ S q:=fun q hq e=>hs q e hq
 exact ⟨fun q hq=>Nat.lt_of_lt_of_le (h.lt q hq) hc.size,⟨h.box.1,hc.at h.box.2 (hD _ h.box.1)⟩,⟨ownsRow_chg h.own.own hc (fun q hq=>hD q (h.ownD q hq)),h.own.fst,fun x hx=>by
  obtain ⟨a,b,c⟩:=h.own.tos x hx
  exact ⟨a,b.kept hc (fun hne ad e=>hD _ (h.tosD x hx hne ad e)),c⟩⟩,h.ownD,h.tosD⟩
theorem DOwn.push {D:Nat→Prop} {W V:World} {lo ob:Nat} {sl:Value} {ms:List Mvi} {xs:List MvS} (h:DOwn D W lo ob sl ms xs) (hlo:lo≤W.heap.size) (hn:ms.length≤1000000) (hWV:Chg Nob W V) (x:MvS) (hx:x.1.to.length≤2000000∧TRow V W.heap.size x.2.1 x.1.to∧(x.2.1=none→x.2.2=0)) :
 ∃ sl' V1,(Builtin.append_ #[67,67] 67 #[sl,.slice (some ⟨V.heap.size,0,none⟩) 1 1]).run Tryz.prog (V.alloc (.cells (cellsM x).toArray 75)) = .ok sl' V1∧V1.heap[ob]? = some (.cells #[sl] 67 (0,0))∧Chg (fun q=>sl.ownBlock=some q) V V1∧(∃ q c,sl' = .slice (some ⟨q,0,none⟩) (ms.length+1) c) ∧
   ∃ D',DOwn D' (V1.setCell ⟨ob,0,none⟩ sl') lo ob sl' (ms++[x.1]) (xs++[x])∧Chg D W (V1.setCell ⟨ob,0,none⟩ sl')∧Grows D D' W.heap.size:=by
 have hV:=h.keep hWV (fun _ e=>e.elim)
 have hob:=hV.box.2
 have hn67:∀ q cs t m,V.heap[q]? = some (.cells cs t m)→t≠67→q≠ob:=by
  rintro q cs t m e ht rfl
  rw [hob] at e
  simp at e
  exact ht e.2.1.symm
 have hw:=hWV.size
 obtain ⟨sl',V1,hrun,hown,hc,q,c,rfl,hq,hl⟩:=hV.own.push2 (by omega) hn x ⟨hx.1,hx.2.1.low (Nat.zero_le _),hx.2.2⟩
 have hnob:¬ sl.ownBlock=some ob:=fun e=>by
  obtain ⟨cs,m,e2⟩:=ownsRow_block hV.own.own ob e
  exact hn67 ob cs 75 m e2 (by decide) rfl
 have hob1:=hc.at hob hnob
 obtain ⟨sl',hsl⟩:∃ sl',sl'=Value.slice (some ⟨q,0,none⟩) (ms.length+1) c:=⟨_,rfl⟩
 rw [← hsl] at hrun hown
 have hsb:sl'.ownBlock=some q:=by rw [hsl];rfl
 have hset:Chg (At1 ob) V1 (V1.setCell ⟨ob,0,none⟩ sl'):=(Chg.refl (At1 ob) V1).setCell (p:=⟨ob,0,none⟩) (fun _=>rfl) _
 have hall:Chg (fun k=>k=ob∨sl.ownBlock=some k) V (V1.setCell ⟨ob,0,none⟩ sl'):=(hc.mono (fun _ _ e=> .inr e)).setCell (fun _=> .inl rfl) _
 refine ⟨sl',V1,by rw [hsl];rw [← hsl];exact hrun,hob1,hc,⟨q,c,hsl⟩,fun k=>D k∨k=q∨(x.1.to≠[]∧∃ a,x.2.1=some a∧a.block=k),⟨?_,⟨.inl h.box.1,block_one_set hob1⟩,?_,?_,?_⟩,?_,?_⟩
 ·rintro k (hk | rfl | ⟨hne,a,ha,rfl⟩)
  ·exact Nat.lt_of_lt_of_le (hV.lt k hk) hall.size
  ·rw [World.size_setCell];exact hq
  ·obtain ⟨g,cs,m,e,_,hb⟩:=hx.2.1.2 hne
   rw [ha] at e
   cases e
   exact Nat.lt_of_lt_of_le (Array.getElem?_eq_some_iff.1 hb).1 hall.size
 ·refine hown.typed hset (fun k hk e=>?_) (fun k e cs m hb=>?_)
  ·have e:k=ob:=e
   subst e
   obtain ⟨cs,m,e2⟩:=ownsRow_block hown.own k hk
   rw [hob1] at e2
   simp at e2
  ·have e:k=ob:=e
   subst e
   rw [hob1] at hb
   simp at hb
 ·intro k hk
  rw [hsb] at hk
  cases hk
  exact .inr (.inl rfl)
 ·intro y hy hne a ha
  rcases List.mem_append.1 hy with hy | hy
  ·exact .inl (h.tosD y hy hne a ha)
  ·obtain rfl:=List.mem_singleton.1 hy
   exact .inr (.inr ⟨hne,a,ha,rfl⟩)
 ·refine (hWV.any (S:=D)).trans1 (hall.mono (fun k _ e=>?_))
  rcases e with rfl | e
  ·exact h.box.1
  ·exact h.ownD k e
 ·rintro k (hk | rfl | ⟨hne,a,ha,rfl⟩)
  ·exact .inl hk
  ·rcases hl with hl | hl
   ·exact .inl (h.ownD _ hl)
   ·exact .inr (by omega)
  ·obtain ⟨g,cs,m,e,hlo,_⟩:=hx.2.1.2 hne
   rw [ha] at e
   cases e
   exact .inr hlo
def BothPost (a b:List Mvi) (w:World) (e:Ending) (w':World):Prop:=Chg Nob w w'∧((4096 < (pairsI a b).length∧e = .panicked manyE)∨((pairsI a b).length≤4096∧∃ sl xs',e = .returned sl∧MOwn w' w.heap.size sl (leastI (pairsI a b) (pairsI a b).length) xs'))
theorem getD_map1 {xs:List MvS} {a:List Mvi} (h:xs.map (·.1)=a) {i:Nat} (hi:i < xs.length):∃ x,x∈xs∧xs[i]? = some x∧xs.getD i mS0=x∧a.getD i m0=x.1:=by
 refine ⟨xs[i],List.getElem_mem hi,List.getElem?_eq_getElem hi,by rw [List.getD_eq_getElem?_getD,List.getElem?_eq_getElem hi];rfl,?_⟩
 rw [← h,List.getD_eq_getElem?_getD,List.getElem?_map,List.getElem?_eq_getElem hi];rfl
end Go.Proofs.YtkgfdgfhpdhhaaaGreat
