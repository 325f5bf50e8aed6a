/- Parts of the walks and of the plain theory, the first: The closures of a table. Conditions: the rows lie in the world. -/
import Derived.Test.YtkgfdgfhpdhhaaaGreatT12
import Derived.Lib.AppendZeros
import Derived.Deep.DeepCutAuto
import Derived.Test.YtkgfdgfhpdhhaaaGreatT10
import Derived.Test.YtkgfdgfhpdhhaaaGreatT01
import Derived.ChangeSlices
import Derived.ChangeSame
import Derived.SliceStrings
namespace Go.Proofs.YtkgfdgfhpdhhaaaGreat
open Go.ChangeShapes Go.WideShapes Go.RowKit
set_option maxRecDepth 100000
set_option maxHeartbeats 4000000
theorem tand_any (x y:Bool) (w:World):Calls Tryz.prog 106 #[.bool x,.bool y] w fun e w'=>e = .returned (.bool (x&&y))∧Chg Nob w w':=by
 cases x
 all_goals
  go_enter Tryz.func106,Tryz.ntmps106
  go_wp2
  go_ret
  exact ⟨rfl,Chg.refl _ _⟩
theorem tor_any (x y:Bool) (w:World):Calls Tryz.prog 107 #[.bool x,.bool y] w fun e w'=>e = .returned (.bool (x || y))∧Chg Nob w w':=by
 cases x
 all_goals
  go_enter Tryz.func107,Tryz.ntmps107
  go_wp2
  go_ret
  exact ⟨rfl,Chg.refl _ _⟩
theorem imp_b_any (x y:Bool) (w:World):Calls Tryz.prog 108 #[.bool x,.bool y] w fun e w'=>e = .returned (.bool (!x || y))∧Chg Nob w w':=by
 cases x
 all_goals
  go_enter Tryz.func108,Tryz.ntmps108
  go_wp2
  go_ret
  exact ⟨rfl,Chg.refl _ _⟩
theorem iff_b_any (x y:Bool) (w:World):Calls Tryz.prog 109 #[.bool x,.bool y] w fun e w'=>e = .returned (.bool (x==y))∧Chg Nob w w':=by
 cases x <;> cases y
 all_goals
  go_enter Tryz.func109,Tryz.ntmps109
  go_wp2
  go_ret
  exact ⟨rfl,Chg.refl _ _⟩
theorem is_any (w:World) (g:Nat) (x:Bool) (i:Int) (hb:w.cell? ⟨g,0,none⟩=some (.bool x)):Calls Tryz.prog 98 #[.int .i64 i,.pointer (some ⟨g,0,none⟩)] w fun e w'=>e = .returned (.bool x)∧Chg Nob w w':=by
 go_enter Tryz.func98,Tryz.ntmps98
 go_wp2
 go_ret
 exact ⟨rfl,Chg.refl _ _⟩
section
variable {tb pb : Nat} {nv : Value} {ap al : Option Addr} {np cp nl cl n : Nat} {w : World}
theorem all_any (hT:TabIs w tb nv ap np cp al nl cl n) (hn:n≤10000) (hp:w.cell? ⟨pb,0,none⟩=some (.pointer (some ⟨tb,0,none⟩))) (x:Bool) :
 Calls Tryz.prog 96 #[.bool x,.pointer (some ⟨pb,0,none⟩)] w fun e w'=>Chg Nob w w'∧∃ g,w.heap.size≤g∧e = .returned (.slice (some ⟨g,0,none⟩) n n)∧BBlk w' g (List.replicate n x):=by
 have hmf:∀ (fn:Fn) (first cap:Array Value) (w:World),(Instr.makeFunc fn first cap).run Tryz.prog w = .ok (.func fn first cap) w:=fun _ _ _ _=>rfl
 obtain ⟨X,hX,hcX,hbX⟩:∃ X,X=w.alloc (.cells #[.bool x] 4)∧Chg Nob w X∧X.heap[w.heap.size]? = some (.cells #[.bool x] 4 (0,0)):=⟨_,rfl,(Chg.refl _ _).alloc _,heap_alloc_new _ _⟩
 have hc:=each_any (w:=X) (hcX.at hT (fun e=>e)) hn 98 #[.pointer (some ⟨w.heap.size,0,none⟩)] (enters_of Tryz.func98 (by kernel_rfl) rfl) (fun _=>x) (fun i hi W hW=>is_any W w.heap.size x i (cell_row (hW.at hbX (fun e=>e)) 0 rfl))
 have hpX:=hcX.cell' hp (fun e=>e)
 rw [hX] at hpX
 have HcX:=Lib.hid hcX
 have hsX:=hcX.size
 clear hT hp hcX hbX
 go_enter Tryz.func96,Tryz.ntmps96
 go_wp2_with fail
 rw [← hX]
 clear hX hpX
 (with_reducible refine hc.mono ?_)
 clear hc
 rintro e w2 ⟨hc2,g,hg,rfl,hbg⟩
 have hbg0:BBlk w2 g (List.replicate n x):=by
  rw [show List.replicate n x=(List.range n).map (fun _=>x) by rw [List.map_const',List.length_range]]
  exact hbg
 have Hbg:=Lib.hid hbg0
 have Hc2:=Lib.hid (HcX.out.trans1 hc2)
 clear hbg hbg0 hc2
 go_wp2
 go_ret
 exact ⟨Hc2.out,_,by omega,rfl,Hbg.out⟩
variable {lb rg ga : Nat} {A : List Bool} {k c : Nat}
theorem not1_any (hl:w.cell? ⟨lb,0,none⟩=some (.slice (some ⟨rg,0,none⟩) k c)) (hk:0 < k) (hr:w.cell? ⟨rg,0,none⟩=some (.slice (some ⟨ga,0,none⟩) n n)) (hA:BBlk w ga A) (i:Nat) (hi:i < n) (x:Bool) (hx:A[i]? = some x) :
 Calls Tryz.prog 101 #[.int .i64 (i:Int),.pointer (some ⟨lb,0,none⟩)] w fun e w'=>e = .returned (.bool (!x))∧Chg Nob w w':=by
 have c0:=hA.cell hx
 have hi0:(0:Int)≤(i:Int):=by omega
 have hin:(i:Int) < (n:Int):=by omega
 have hki:(0:Int) < (k:Int):=by omega
 clear hA hx
 go_enter Tryz.func101,Tryz.ntmps101
 go_wp2
 go_ret
 exact ⟨rfl,Chg.refl _ _⟩
theorem next1_any (hT:TabIs w tb nv ap np cp al nl cl n) (hn:n≤10000) (hnp:np < n) (hp:w.cell? ⟨pb,0,none⟩=some (.pointer (some ⟨tb,0,none⟩))) (hl:w.cell? ⟨lb,0,none⟩=some (.slice (some ⟨rg,0,none⟩) k c)) (hk:0 < k) (hr:w.cell? ⟨rg,0,none⟩=some (.slice (some ⟨ga,0,none⟩) n n)) (hA:BBlk w ga A) (i:Nat) (hi:i < n) (x:Bool) (hx:A[nextN np n i]? = some x) :
 Calls Tryz.prog 102 #[.int .i64 (i:Int),.pointer (some ⟨lb,0,none⟩),.pointer (some ⟨pb,0,none⟩)] w fun e w'=>e = .returned (.bool x)∧Chg Nob w w':=by
 obtain ⟨q,hq⟩:∃ q,q=nextN np n i:=⟨_,rfl⟩
 rw [← hq] at hx
 have hqn:q < n:=by rw [hq];unfold nextN;split <;> omega
 have c0:=hA.cell hx
 have hq0:(0:Int)≤(q:Int):=by omega
 have hqi:(q:Int) < (n:Int):=by omega
 have hki:(0:Int) < (k:Int):=by omega
 have hc:Hid (Calls Tryz.prog 103 #[.pointer (some ⟨tb,0,none⟩),.int .i64 (i:Int)] w.drew fun e w'=>e = .returned (.int .i64 (q:Int))∧w'=w.drew):=tnext_any (w:=w.drew) hT i hi hn (by omega) q hq
 clear hT hA hx hq hi hnp
 go_enter Tryz.func102,Tryz.ntmps102
 go_wp2_with fail
 refine wp_region_free (fun _=>true) (fun w'=>w'.cell? ⟨pb,0,none⟩=some (.pointer (some ⟨tb,0,none⟩))∧w'.cell? ⟨lb,0,none⟩=some (.slice (some ⟨rg,0,none⟩) k c)∧w'.cell? ⟨rg,0,none⟩=some (.slice (some ⟨ga,0,none⟩) n n)∧w'.cell? ⟨ga,q,none⟩=some (.bool x)) (by kernel_rfl) ⟨hp,hl,hr,c0⟩ (fun hHeld=>?_)
 refine tkG 0 hHeld ?_
 refine tkG 1 hHeld ?_
 refine tkG 2 hHeld ?_
 refine tkG 3 hHeld ?_
 refine tkG 4 hHeld ?_
 refine rdG 5 fun K hK=>?_
 go_simp
 (with_reducible refine hc.out.mono ?_)
 rintro e w3 ⟨rfl,rfl⟩
 refine hK.out _ _ (fun _=>hHeld) ?_
 clear hK K
 try simp only [Act.put]
 refine tkG 6 hHeld ?_
 refine tkG 7 hHeld ?_
 refine tkG 8 hHeld ?_
 refine wpAnyG_done (by kernel_rfl) ?_ _
 go_simp
 go_wp2
 go_ret
 exact ⟨rfl,(Chg.refl _ _).drew⟩
end
theorem ugrow_any (n:Nat) (h1:1≤n) (hn:n≤10000) (w:World):Calls Tryz.prog 64 #[.slice none 0 0,.int .i64 (n:Int)] w fun e w'=>Chg Nob w w'∧∃ v,e = .returned v∧w'.ownsRow w.heap.size 53 1 v 0 []:=by
 obtain ⟨i,hi,hz,hs,hb⟩:=info25_parts
 have hrun:=Lib.run_append_nil_zeros (P:=Tryz.prog) w 26 3 26 53 i (.int .u64 0) .i64 .i64 Tryz.underlying26 Tryz.underlying3 hi hz n h1 (by rw [hs];omega) (by omega) (by rw [hb];omega)
 obtain ⟨G,hG⟩:∃ G,G=grownCap w n 0 53:=⟨_,rfl⟩
 have hGn:n≤G:=hG ▸ grownCap_ge w _ _ _
 have hGm:G≤maxLen:=hG ▸ grownCap_le_maxLen w n 0 53 (by unfold maxLen;omega)
 rw [← hG] at hrun
 obtain ⟨Z,hZ⟩:∃ Z,Z=Builtin.zeroCells (Value.cells (.int .u64 0)) n++Builtin.zeroCells (Value.cells (.int .u64 0)) (G - n):=⟨_,rfl⟩
 have hZs:Z.size=G * 1:=by
  rw [hZ,Array.size_append]
  simp [Builtin.zeroCells,Value.cells]
  omega
 rw [← hZ] at hrun
 have hrow:(w.drew.alloc (.cells Z 53)).ownsRow w.heap.size 53 1 (.slice (some ⟨w.heap.size,0,none⟩) 0 G) 0 []:=World.ownsRow_made w.drew Z G (Nat.le_refl _) hGm hZs
 have hc:Chg Nob w (w.drew.alloc (.cells Z 53)):=((Chg.refl _ _).drew).alloc _
 have Hrow:=Lib.hid hrow
 have Hc:=Lib.hid hc
 have hni:¬ (n:Int) < 0:=by omega
 have hni2:(0:Int) < (n:Int):=by omega
 have hni3:(n:Int)≤10000:=by omega
 have hGi:0≤G:=Nat.zero_le _
 unfold maxLen at hGm
 clear hrow hc hZ hZs hG
 have Hrun:=Lib.hid hrun
 clear hrun
 go_enter Tryz.func64,Tryz.ntmps64
 go_wp2_with (refine wpList_append_known rfl _ _ 26 3 rfl _ _ rfl rfl _ _ Hrun.out ?_)
 go_wp2
 go_ret
 exact ⟨Hc.out,_,rfl,Hrow.out⟩
theorem append_u {B:Nat} {w:World} {v:Value} {n:Nat} {xs:List Value} {ao:Option Addr} {M:List Int} {c:Nat} (h:w.ownsRow B 53 1 v n xs) (hB:B≤w.heap.size) (hn:n+M.length≤1000000) (hM:URow w ao M) (hnil:ao=none→c=0) :
 ∃ v' w',(Builtin.append_ #[26,26] 26 #[v,.slice ao M.length c]).run Tryz.prog w = .ok v' w'∧w'.ownsRow B 53 1 v' (n+M.length) (xs++uvs M)∧w.grownBy w' v.ownBlock:=by
 cases ao with
 | some a =>
   obtain ⟨v',w',h1,h2,h3,_⟩:=append25 c h hB hn (fun j x hj=>by obtain ⟨_,e,h⟩:=hM j x hj;cases e;exact h)
   exact ⟨v',w',h1,h2,h3⟩
 | none =>
   have hM0:M=[]:=by
    cases M with
    | nil=>rfl
    | cons x M=>obtain ⟨_,e,_⟩:=hM 0 x rfl;cases e
   subst hM0
   obtain rfl:=hnil rfl
   obtain ⟨i,hi,hz,hs,hb⟩:=info25_parts
   refine ⟨v,w,run_append_owned_none (P:=Tryz.prog) (w:=w) B 26 26 53 i 1 Tryz.underlying26 hi v n xs h,?_,⟨rfl,rfl,rfl,Nat.le_refl _,fun _ _ _=>rfl⟩⟩
   rw [show uvs []=[] from rfl,List.append_nil]
   exact h
section
variable {ap al : Option Addr} {cp cl rb c : Nat} {P L : List Int} {w : World}
theorem concat_any (hl:P.length+L.length≤10000) (h0:0 < L.length) (hP:URow w ap P) (hL:URow w al L) (hnp:ap=none→cp=0) (hnl:al=none→cl=0)
 (hb:w.heap[rb]? = some (.cells #[.slice ap P.length cp,.slice al L.length cl] 26 (0,0))) :
 Calls Tryz.prog 32 #[.slice (some ⟨rb,0,none⟩) 2 c] w fun e w'=>Chg Nob w w'∧∃ v,e = .returned v∧w'.ownsRow w.heap.size 53 1 v (P.length+L.length) (uvs (P++L)):=by
 have hg:=ugrow_any (P.length+L.length) (by omega) hl w
 rw [Int.natCast_add] at hg
 obtain ⟨c0,c1,_⟩:=cell_two hb
 have HP:=Lib.hid hP
 have HL:=Lib.hid hL
 have Hnp:=Lib.hid hnp
 have Hnl:=Lib.hid hnl
 have Hb:=Lib.hid hb
 have hpl:(P.length:Int)≤10000:=by omega
 have hll:(L.length:Int)≤10000:=by omega
 have hsum:((P.length:Int)+(L.length:Int))≤10000:=by omega
 clear hP hL hnp hnl hb
 go_enter Tryz.func32,Tryz.ntmps32
 go_wp2_with fail
 refine wp_loop_rounds 3 ?_
 rw [rounds_succ]
 go_wp2_with fail
 rw [rounds_succ]
 go_wp2_with fail
 rw [rounds_succ]
 go_wp2_with fail
 (with_reducible refine hg.mono ?_)
 clear hg c0 c1
 rintro e w2 ⟨hc2,v,rfl,hrow⟩
 have hs2:=hc2.size
 have h1:=append_u (ao:=ap) (M:=P) (c:=cp) hrow hs2 (by omega) (HP.out.nob hc2) Hnp.out
 obtain ⟨v3,h1⟩:=h1
 obtain ⟨w3,h1⟩:=h1
 have hrun3:=h1.1
 have hrow3:=h1.2.1
 have hgr3:=h1.2.2
 have hc3:Chg Nob w w3:=hc2.trans (S':=fun b=>v.ownBlock=some b) ((Chg.refl _ _).grown hgr3 (fun k e _=>e)) (fun i hi e=>by have:=(hrow.lt i e).1;omega)
 rw [Nat.zero_add,List.nil_append] at hrow3
 have hs3:=hc3.size
 have h2:=append_u (ao:=al) (M:=L) (c:=cl) hrow3 hs3 (by omega) (HL.out.nob hc3) Hnl.out
 obtain ⟨v4,h2⟩:=h2
 obtain ⟨w4,h2⟩:=h2
 have hrun4:=h2.1
 have hrow4:=h2.2.1
 have hgr4:=h2.2.2
 have hc4:Chg Nob w w4:=hc3.trans (S':=fun b=>v3.ownBlock=some b) ((Chg.refl _ _).grown hgr4 (fun k e _=>e)) (fun i hi e=>by have:=(hrow3.lt i e).1;omega)
 have he:uvs P++uvs L=uvs (P++L):=by unfold uvs;rw [List.map_append]
 rw [he] at hrow4
 have Hrow4:=Lib.hid hrow4
 have Hc4:=Lib.hid hc4
 have Hrun3:=Lib.hid hrun3
 have Hrun4:=Lib.hid hrun4
 obtain ⟨c0,c1,_⟩:=cell_two (hc2.at Hb.out (fun e=>e))
 obtain ⟨d0,d1,_⟩:=cell_two (hc3.at Hb.out (fun e=>e))
 clear h1 h2 hrow hrow3 hrow4 hgr3 hgr4 hc2 hc3 hc4 hrun3 hrun4 he hs2 hs3
 go_wp2_with fail
 refine wp_loop_rounds 3 ?_
 rw [rounds_succ]
 go_wp2_with (refine wpList_append_known rfl _ _ 26 26 rfl _ _ rfl rfl _ w3 Hrun3.out ?_)
 rw [rounds_succ]
 go_wp2_with (refine wpList_append_known rfl _ _ 26 26 rfl _ _ rfl rfl _ w4 Hrun4.out ?_)
 rw [rounds_succ]
 go_wp2
 go_ret
 exact ⟨Hc4.out,_,rfl,Hrow4.out⟩
end
end Go.Proofs.YtkgfdgfhpdhhaaaGreat
namespace Go.Proofs.YtkgfdgfhpdhhaaaGreat
open Go.ChangeShapes Go.WideShapes Go.RowKit
attribute [local go_sem] Oper.semAt_some
set_option maxHeartbeats 400000000
section
variable {ap al : Option Addr} {cp cl : Nat} {w : World}
theorem lcheckb_any (np nl:Nat) (hl:np+nl≤4000000):Calls Tryz.prog 31 #[.agg #[.slice ap np cp,.slice al nl cl]] w fun e w'=>e = .returned (.int .i64 (lcheckN np nl))∧Chg Nob w w':=by
 obtain ⟨X,hX,hcX,_,hb⟩:=box_two w (.slice ap np cp) (.slice al nl cl)
 obtain ⟨c0,c1,_⟩:=cell_two hb
 rw [hX] at c0 c1 hcX
 have HcX:=Lib.hid hcX
 clear hb hcX hX
 by_cases h0:nl=0
 ·subst h0
  have Hr:Hid (lcheckN np 0=100):=if_pos (.inl rfl)
  go_enter Tryz.func31,Tryz.ntmps31
  go_wp2
  go_ret
  exact ⟨by rw [Hr.out];rfl,HcX.out⟩
 ·have h0b:((nl:Int)==0)=false:=by simpa using h0
  have h0i:¬ (nl:Int)=0:=by omega
  have hi:(np:Int)+(nl:Int)≤4000000:=by omega
  by_cases hb:4096 < np+nl
  ·have hbi:4096 < (np:Int)+(nl:Int):=by omega
   have Hr:Hid (lcheckN np nl=100):=if_pos (.inr hb)
   clear hb h0
   go_enter Tryz.func31,Tryz.ntmps31
   go_wp2
   go_ret
   exact ⟨by rw [Hr.out];rfl,HcX.out⟩
  ·have hbi:¬ 4096 < (np:Int)+(nl:Int):=by omega
   have Hr:Hid (lcheckN np nl=0):=if_neg (by omega)
   clear hb h0
   go_enter Tryz.func31,Tryz.ntmps31
   go_wp2
   go_ret
   exact ⟨by rw [Hr.out];rfl,HcX.out⟩
end
def updA (R:List (List Bool)) (ms:List Mvi) (M:List Int) (np:Nat) (l:List Bool) (j:Nat):List Bool :=
 l.set j (ms.any fun m=>hasI m.yes m.no (M.getD j 0)&&allR (R++[l]) m.to (nextN np M.length j))
def sweepA (R:List (List Bool)) (ms:List Mvi) (M:List Int) (np:Nat):Nat→List Bool→List Bool
 | 0,l=>l
 | j+1,l=>sweepA R ms M np j (updA R ms M np l j)
def timesA (R:List (List Bool)) (ms:List Mvi) (M:List Int) (np:Nat):Nat→List Bool→List Bool
 | 0,l=>l
 | r+1,l=>timesA R ms M np r (sweepA R ms M np M.length l)
def rowI (R:List (List Bool)) (s:Sti) (M:List Int) (np:Nat):List Bool:=timesA R s.moves M np 2 (List.replicate M.length (!s.fin))
def rowsI (S:List Sti) (M:List Int) (np:Nat):Nat→List (List Bool)
 | 0=>[]
 | m+1=>rowsI S M np m++[rowI (rowsI S M np m) (S.getD m s0) M np]
def accI (I:List (List Int)) (S:List Sti) (M:List Int) (np:Nat):Bool:=I.any fun l=>allR (rowsI S M np S.length) l 0
theorem updA_len (R:List (List Bool)) (ms:List Mvi) (M:List Int) (np:Nat) (l:List Bool) (j:Nat):(updA R ms M np l j).length=l.length:=List.length_set
theorem sweepA_len (R:List (List Bool)) (ms:List Mvi) (M:List Int) (np:Nat):∀ (m:Nat) (l:List Bool),(sweepA R ms M np m l).length=l.length
 | 0,_=>rfl
 | m+1,l=>by rw [sweepA,sweepA_len R ms M np m,updA_len]
theorem rowI_len (R:List (List Bool)) (s:Sti) (M:List Int) (np:Nat):(rowI R s M np).length=M.length:=by
 unfold rowI timesA timesA timesA
 rw [sweepA_len,sweepA_len,List.length_replicate]
theorem rowsI_length (S:List Sti) (M:List Int) (np:Nat):∀ n,(rowsI S M np n).length=n
 | 0=>rfl
 | n+1=>by rw [rowsI,List.length_append,rowsI_length S M np n];rfl
theorem Tryz.info34z:(Tryz.prog.info? 34).map (fun i=>(i.zero,i.size,i.bytes))=some (some (.slice none 0 0),1,24):=by kernel_rfl
theorem make66 (n:Nat) (hn:n≤10000) (w:World):∃ cs:Array Value,cs.size=n∧(Instr.makeSlice 66 (.int .i64 (n:Int)) (.int .i64 (n:Int))).run Tryz.prog w = .ok (.slice (some ⟨w.heap.size,0,none⟩) n n) (w.alloc (.cells cs 34)):=by
 have h:=Tryz.info34z
 cases hi:Tryz.prog.info? 34 with
 | none=>rw [hi] at h;simp at h
 | some i =>
   rw [hi] at h
   simp at h
   have hr:=run_makeSlice (P:=Tryz.prog) (w:=w) 66 34 i (.slice none 0 0) Tryz.underlying66 hi h.1 .i64 .i64 (n:Int) (n:Int) (by omega) (Int.le_refl _) (by rw [h.2.1];simp;omega) (by rw [h.2.2];omega) (by omega)
   rw [h.2.1,Int.toNat_natCast] at hr
   exact ⟨_,by simp [madeCells],hr⟩
def boxN (v:Value) (W:World):Nat:=match v with
 | .pointer (some a)=>match W.cell? a with
   | some (.int _ z)=>(z+1).toNat
   | _=>0
 | _=>0
theorem boxN_eq {W:World} {ib:Nat} {k:IntKind} {z:Int} (h:W.cell? ⟨ib,0,none⟩=some (.int k z)):boxN (.pointer (some ⟨ib,0,none⟩)) W=(z+1).toNat:=by
 unfold boxN
 simp only [h]
structure RunsL (W Y:World) (rb gr ns:Nat) (gs:List Nat) (rows:List (List Bool)) (n:Nat):Prop where
 chg:Chg Nob Y W
 above:Y.heap.size≤gr
 order:gr < rb
 box:W.cell? ⟨rb,0,none⟩=some (.slice (some ⟨gr,0,none⟩) ns ns)
 blk:∃ cs:Array Value,W.heap[gr]? = some (.cells cs 34 (0,0))∧cs.size=ns∧∀ (k g:Nat),gs[k]? = some g→cs[k]? = some (.slice (some ⟨g,0,none⟩) n n)
 len:gs.length=rows.length
 row:∀ (k g:Nat) (r:List Bool),gs[k]? = some g→rows[k]? = some r→BBlk W g r∧rb < g∧r.length=n
theorem RunsL.nob {W W' Y:World} {rb gr ns:Nat} {gs:List Nat} {rows:List (List Bool)} {n:Nat} (h:RunsL W Y rb gr ns gs rows n) (hc:Chg Nob W W'):RunsL W' Y rb gr ns gs rows n :=
 ⟨h.chg.trans1 hc,h.above,h.order,hc.cell' h.box (fun e=>e),by obtain ⟨cs,a,b,c⟩:=h.blk;exact ⟨cs,hc.at a (fun e=>e),b,c⟩,h.len,fun k g r h1 h2=>by
  obtain ⟨a,b,c⟩:=h.row k g r h1 h2
  exact ⟨a.chg hc (fun e=>e),b,c⟩⟩
theorem RunsL.runs {W Y:World} {rb gr ns:Nat} {gs:List Nat} {rows:List (List Bool)} {n:Nat} (h:RunsL W Y rb gr ns gs rows n) (hle:rows.length≤ns):RunsW W rb gr ns gs rows n :=
 ⟨h.box,h.len,hle,fun k g r h1 h2=>by
  obtain ⟨cs,a,b,c⟩:=h.blk
  obtain ⟨x,y,z⟩:=h.row k g r h1 h2
  exact ⟨cell_row a k (c k g h1),x,z⟩⟩
theorem RunsL.push {W Y:World} {rb gr ns:Nat} {gs:List Nat} {rows:List (List Bool)} {n g:Nat} {l:List Bool} (h:RunsL W Y rb gr ns gs rows n) (hlt:rows.length < ns) (hb:BBlk W g l) (hg:rb < g) (hl:l.length=n) :
 (∃ v,W.cell? ⟨gr,rows.length,none⟩=some v)∧W.frozen? ⟨gr,rows.length,none⟩=false∧RunsL (W.setCell ⟨gr,rows.length,none⟩ (.slice (some ⟨g,0,none⟩) n n)) Y rb gr ns (gs++[g]) (rows++[l]) n:=by
 obtain ⟨cs,a,b,c⟩:=h.blk
 have hlen:=h.len
 have hor:=h.order
 have hab:=h.above
 have hset:Chg (At1 gr) W (W.setCell ⟨gr,rows.length,none⟩ (.slice (some ⟨g,0,none⟩) n n)):=(Chg.refl (At1 gr) W).setCell (p:=⟨gr,rows.length,none⟩) (fun _=>rfl) _
 have hlc:rows.length < cs.size:=by omega
 refine ⟨⟨cs[rows.length],cell_row a _ (Array.getElem?_eq_getElem hlc)⟩,by simp [World.frozen?,a],?_⟩
 refine ⟨h.chg.trans hset (fun i hi e=>by have e:i=gr:=e;omega),h.above,h.order,hset.cell' h.box (fun e=>by have e:rb=gr:=e;omega),⟨cs.setIfInBounds rows.length (.slice (some ⟨g,0,none⟩) n n),?_,by simp [b],?_⟩,by simp [hlen],?_⟩
 ·simp [World.setCell,Array.getElem?_modify,a]
 ·intro k g' hk
  by_cases e:k=rows.length
  ·subst e
   rw [← hlen,List.getElem?_append_right (Nat.le_refl _),Nat.sub_self] at hk
   obtain rfl:g=g':=by simpa using hk
   simp [hlc]
  ·have hk2:k < gs.length:=by
    have:=(List.getElem?_eq_some_iff.1 hk).1
    rw [List.length_append] at this
    simp only [List.length_cons,List.length_nil] at this
    omega
   rw [List.getElem?_append_left hk2] at hk
   rw [Array.getElem?_setIfInBounds,if_neg (fun h=>e h.symm)]
   exact c k g' hk
 ·intro k g' r hk hr
  by_cases e:k=rows.length
  ·subst e
   rw [← hlen,List.getElem?_append_right (Nat.le_refl _),Nat.sub_self] at hk
   obtain rfl:g=g':=by simpa using hk
   rw [List.getElem?_append_right (Nat.le_refl _),Nat.sub_self] at hr
   obtain rfl:l=r:=by simpa using hr
   exact ⟨hb.chg hset (fun e=>by have e:g=gr:=e;omega),hg,hl⟩
  ·have hk2:k < gs.length:=by
    have:=(List.getElem?_eq_some_iff.1 hk).1
    rw [List.length_append] at this
    simp only [List.length_cons,List.length_nil] at this
    omega
   rw [List.getElem?_append_left hk2] at hk
   rw [List.getElem?_append_left (by omega)] at hr
   obtain ⟨x,y,z⟩:=h.row k g' r hk hr
   exact ⟨x.chg hset (fun e=>by have e:g'=gr:=e;omega),y,z⟩
theorem RunsL.put {W Y:World} {rb gr ns:Nat} {gs:List Nat} {rows:List (List Bool)} {n g:Nat} {l:List Bool} (h:RunsL W Y rb gr ns (gs++[g]) (rows++[l]) n) (hfresh:∀ (k g':Nat),gs[k]? = some g'→g'≠g) (j:Nat) (x:Bool) :
 RunsL (W.setCell ⟨g,j,none⟩ (.bool x)) Y rb gr ns (gs++[g]) (rows++[l.set j x]) n:=by
 have hlen:gs.length=rows.length:=by have:=h.len;simpa using this
 have hor:=h.order
 have hab:=h.above
 obtain ⟨hb,hg,hl⟩:=h.row rows.length g l (by rw [← hlen,List.getElem?_append_right (Nat.le_refl _),Nat.sub_self];rfl) (by rw [List.getElem?_append_right (Nat.le_refl _),Nat.sub_self];rfl)
 have hset:Chg (At1 g) W (W.setCell ⟨g,j,none⟩ (.bool x)):=(Chg.refl (At1 g) W).setCell (p:=⟨g,j,none⟩) (fun _=>rfl) _
 obtain ⟨cs,a,b,c⟩:=h.blk
 refine ⟨h.chg.trans hset (fun i hi e=>by have e:i=g:=e;omega),h.above,h.order,hset.cell' h.box (fun e=>by have e:rb=g:=e;omega),⟨cs,hset.at a (fun e=>by have e:gr=g:=e;omega),b,c⟩,by simp [hlen],?_⟩
 intro k g' r hk hr
 by_cases e:k=rows.length
 ·subst e
  rw [← hlen,List.getElem?_append_right (Nat.le_refl _),Nat.sub_self] at hk
  obtain rfl:g=g':=by simpa using hk
  rw [List.getElem?_append_right (Nat.le_refl _),Nat.sub_self] at hr
  obtain rfl:l.set j x=r:=by simpa using hr
  exact ⟨hb.set j x,hg,by rw [List.length_set];exact hl⟩
 ·have hk2:k < gs.length:=by
   have:=(List.getElem?_eq_some_iff.1 hk).1
   rw [List.length_append] at this
   simp only [List.length_cons,List.length_nil] at this
   omega
  rw [List.getElem?_append_left (by omega)] at hr
  have hk3:=hk
  rw [List.getElem?_append_left hk2] at hk3
  obtain ⟨y1,y2,y3⟩:=h.row k g' r hk (by rw [List.getElem?_append_left (by omega)];exact hr)
  exact ⟨y1.chg hset (fun e=>hfresh k g' hk3 e),y2,y3⟩
def okU (x:Int):Prop:=0≤x∧x < 18446744073709551616
def bvU (x:Int):BitVec 64:=BitVec.ofInt 64 x
theorem bvU_nat {x:Int} (hx:okU x):((bvU x).toNat:Int)=x:=by
 unfold bvU
 rw [BitVec.toNat_ofInt]
 have h1:=hx.1
 have h2:=hx.2
 rw [Int.emod_eq_of_lt h1 (by simpa using h2)]
 exact Int.toNat_of_nonneg h1
theorem bits_bv {x y:Int}:bits .and .u64 x y=((bvU x &&& bvU y).toNat:Int):=by
 have hlt:(bvU x &&& bvU y).toNat < 2 ^ 64:=BitVec.isLt _
 show IntKind.wrap .u64 ((BitVec.ofInt 64 x &&& BitVec.ofInt 64 y).toNat:Int)=_
 have e:(BitVec.ofInt 64 x &&& BitVec.ofInt 64 y)=(bvU x &&& bvU y):=rfl
 rw [e]
 generalize (bvU x &&& bvU y).toNat=n at *
 have hw:IntKind.wrap .u64 (n:Int)=(n:Int) % 2 ^ 64:=rfl
 rw [hw]
 exact Int.emod_eq_of_lt (by omega) (by omega)
end Go.Proofs.YtkgfdgfhpdhhaaaGreat
namespace Go.Proofs.YtkgfdgfhpdhhaaaGreat
open Go.ChangeShapes Go.WideShapes Go.ChangeAt Go.RowKit
attribute [local go_sem] Oper.semAt_some
set_option maxRecDepth 100000
set_option maxHeartbeats 2000000
theorem less_any (R:Nat→Prop):∀ (N:Nat) (t:T),sizeT t≤N→∀ (v:Value) (left:Int) (w:World),IsTree R w t v→0 < left→left≤1000000 →
 Calls Tryz.prog 26 #[v,.int .i64 left] w fun e w'=>e = .returned (.int .i64 (greatT t left))∧Chg Nob w w':=by
 intro N
 induction N with
 | zero=>intro t h;rw [sizeT_eq] at h;omega
 | succ N ih =>
   intro t hN v left w ht h0 h1
   obtain ⟨ao,cap,rfl,hlen,hk⟩:=ht.parts
   have Ih:=Lib.hid ih
   have Hk:=Lib.hid hk
   have hsz:sizeL t.kids≤N:=by rw [sizeT_eq] at hN;omega
   clear ih hk ht hN
   have hw1:wrap64 (left - 1)=left - 1:=by unfold wrap64;omega
   go_enter Tryz.func26,Tryz.ntmps26
   go_wp2_with fail
   have hcW:Chg Nob w (w.alloc (Obj.cells #[Value.int IntKind.i64 t.kind,Value.string ⟨t.name.toArray⟩,Value.slice ao t.kids.length cap] 24)):=(Chg.refl _ _).alloc _
   have hbox:=heap_alloc_new w (Obj.cells #[Value.int IntKind.i64 t.kind,Value.string ⟨t.name.toArray⟩,Value.slice ao t.kids.length cap] 24)
   generalize (w.alloc (Obj.cells #[Value.int IntKind.i64 t.kind,Value.string ⟨t.name.toArray⟩,Value.slice ao t.kids.length cap] 24))=W1 at *
   have Hbox:=Lib.hid hbox
   clear hbox
   go_loopw [1,5] (fun l i wr=>GrRel W1 t.kids (greatT t left) left l i wr) (fun _ i _=>t.kids.length - (intOf i).toNat)
   case atStart=>exact ⟨0,left - 1,rfl,rfl,Nat.zero_le _,by omega,by omega,by show _=_;rw [greatT_eq];rfl,Chg.refl _ _⟩
   case round =>
    obtain ⟨k,n,rfl,rfl,hkk,hn0,hn1,hr,hc⟩:=hrel
    have hbx:=hc.at Hbox.out (fun e=>e)
    have c2:=cell_row hbx 2 (v:= .slice ao t.kids.length cap) rfl
    clear hbx
    by_cases hlt:k < t.kids.length
    ·obtain ⟨u,hu⟩:∃ u,t.kids[k]? = some u:=⟨_,List.getElem?_eq_getElem hlt⟩
     have hd:t.kids.drop k=u::t.kids.drop (k+1):=drop_at' hu
     have hki:(k:Int) < (t.kids.length:Int):=by omega
     have hk0:(0:Int)≤(k:Int):=by omega
     by_cases hn:0 < n
     ·obtain ⟨b,o,ak,capk,hao,hRb,q0,q1,q2,hl2,hk2,htree⟩:=Hk.out.kid hu
      have hcc:=hcW.trans1 hc
      have q0':=hcc.cell' q0 (fun e=>e)
      have q1':=hcc.cell' q1 (fun e=>e)
      have q2':=hcc.cell' q2 (fun e=>e)
      have hcall:=Ih.out u (by have:=sizeT_kid hu;omega) _ n wr (htree.nob hcc) hn (by omega)
      have hb:=greatT_le u n hn
      have hr2:Hid (greatT t left=greatL (t.kids.drop (k+1)) (greatT u n)):=by
       show _=_
       rw [hr.out,hd,greatL,if_pos hn]
      have Hb:=Lib.hid hb
      clear q0 q1 q2 hk2 htree hr hd hb hu
      subst hao
      go_wp2_with fail
      (with_reducible refine hcall.mono ?_)
      clear hcall
      rintro e w3 ⟨rfl,hc3⟩
      go_wp2_with fail
      go_roundw
      case rel=>exact ⟨k+1,_,rfl,by go_num,by omega,Hb.out.1,by have:=Hb.out;omega,hr2,hc.trans1 hc3⟩
      case measure=>simp [intOf];omega
     ·have hn00:n=0:=by omega
      subst hn00
      have hr2:greatT t left=0:=by rw [hr.out,hd,greatL,if_neg (by omega)]
      have Hr2:=Lib.hid hr2
      clear hr2 hr hd hu
      go_wp2_with fail
      go_ret
      exact ⟨by rw [Hr2.out];rfl,hcW.trans1 hc⟩
    ·obtain rfl:k=t.kids.length:=by omega
     have hr2:greatT t left=n:=by rw [hr.out,List.drop_length,greatL]
     have Hr2:=Lib.hid hr2
     clear hr2 hr
     go_wp2_with fail
     go_ret
     exact ⟨by rw [Hr2.out];rfl,hcW.trans1 hc⟩
theorem rgreat_any {t:T} {v:Value} {w:World} (h:TI w t v):Calls Tryz.prog 7 #[v] w fun e w'=>e = .returned (.bool (decide (greatT t 100000≤0)))∧Chg Nob w w':=by
 obtain ⟨ao,cap,rfl,hlen,_⟩:=IsTree.parts h
 obtain ⟨W,hWe,hcW,hsW,hb0⟩:=box_one w (.int .i64 t.kind) (.string ⟨t.name.toArray⟩) (.slice ao t.kids.length cap)
 have hp:=less_any _ _ t (Nat.le_refl _) _ 100000 W (TI.nob h hcW) (by decide) (by decide)
 obtain ⟨c0,c1,c2,_⟩:=cells_three hb0
 rw [hWe] at c0 c1 c2
 have HcW:=Lib.hid hcW
 clear h hb0 hsW hcW
 go_enter Tryz.func7,Tryz.ntmps7
 go_wp2_with fail
 rw [← hWe]
 clear hWe c0 c1 c2
 (with_reducible refine hp.mono ?_)
 clear hp
 rintro e w2 ⟨rfl,hc2⟩
 have H2:=Lib.hid (HcW.out.trans1 hc2)
 clear hc2
 go_wp2_with fail
 go_ret
 exact ⟨rfl,H2.out⟩
section
variable {w : World} {ap al : Option Addr} {cp cl : Nat}
theorem rlcheckz_any (np nl:Nat) (hl:np+nl≤1000000000000000000):Calls Tryz.prog 10 #[.agg #[.slice ap np cp,.slice al nl cl]] w fun e w'=>e = .returned (.int .i64 (lcheckN np nl))∧Chg Nob w w':=by
 obtain ⟨X,hX,hcX,_,hb⟩:=box_two w (.slice ap np cp) (.slice al nl cl)
 obtain ⟨c0,c1,_⟩:=cell_two hb
 rw [hX] at c0 c1 hcX
 have HcX:=Lib.hid hcX
 clear hb hcX hX
 by_cases h0:nl=0
 ·subst h0
  have Hr:Hid (lcheckN np 0=100):=if_pos (.inl rfl)
  go_enter Tryz.func10,Tryz.ntmps10
  go_wp2
  go_ret
  exact ⟨by rw [Hr.out];rfl,HcX.out⟩
 ·have h0b:((nl:Int)==0)=false:=by simpa using h0
  have h0i:¬ (nl:Int) < 1:=by omega
  have hi:(np:Int)+(nl:Int)≤1000000000000000000:=by omega
  by_cases hb:4096 < np+nl
  ·have hbi:4096 < (np:Int)+(nl:Int):=by omega
   have Hr:Hid (lcheckN np nl=100):=if_pos (.inr hb)
   clear hb h0
   go_enter Tryz.func10,Tryz.ntmps10
   go_wp2
   go_ret
   exact ⟨by rw [Hr.out];rfl,HcX.out⟩
  ·have hbi:¬ 4096 < (np:Int)+(nl:Int):=by omega
   have Hr:Hid (lcheckN np nl=0):=if_neg (by omega)
   clear hb h0
   go_enter Tryz.func10,Tryz.ntmps10
   go_wp2
   go_ret
   exact ⟨by rw [Hr.out];rfl,HcX.out⟩
end
structure NamesIz (W:World) (v:Value) (an:Option Addr) (cn:Nat) (L:List (List UInt8)):Prop where
 val:v = .slice an L.length cn
 cap:L.length≤cn
 row:Texts W v L
section
variable {H : Type} {enc : TypeId × Value → H} {W : World}
theorem open_names {b0:Nat} {v:Value} {d:DataW H} {p:List MemPlace} (hv:Value.okWide Tryz.prog W .any b0 25 v) (h:DataW.Trod enc Tryz.prog W 0 (fun _=>true) true 25 v d p):∃ l:Option Addr × Nat × List (List UInt8),NamesIz W v l.1 l.2.1 l.2.2:=by
 obtain ⟨ao,len,cap,rfl⟩:=okWide_slice Tryz.underlying25 hv
 obtain ⟨fuel,hf⟩:=h
 rcases open_strings Tryz.underlying25 Tryz.underlying9 (by kernel_rfl) hf with ⟨hcs,_⟩ | ⟨a,len',cap',ss,hcs,_,hl,hm,hz,hx,hc,_⟩
 ·simp [Value.cells] at hcs
  obtain ⟨rfl,rfl,rfl⟩:=hcs
  exact ⟨(none,0,[]),rfl,Nat.le_refl _,none,0,rfl,by simp,fun j x h=>by simp at h⟩
 ·simp [Value.cells] at hcs
  obtain ⟨rfl,rfl,rfl⟩:=hcs
  simp at hz
  have hlen:((ss.take len).map fun s=>s.data.toList).length=len:=by rw [List.length_map,List.length_take];omega
  refine ⟨(some a,cap,(ss.take len).map fun s=>s.data.toList),by show Value.slice _ _ _=_;rw [hlen],by show _≤cap;rw [hlen];exact hl,some a,cap,by rw [hlen],by rw [hlen];unfold maxLen at hm;omega,fun j x hj=>?_⟩
  have hj:((ss.take len).map fun s=>s.data.toList)[j]? = some x:=hj
  have hj1:j < len:=by
   have:=(List.getElem?_eq_some_iff.1 hj).1
   omega
  have h2:=hc j (by omega)
  obtain ⟨b,o,spot⟩:=a
  have hs:spot=none:=by
   have h00:=hc 0 (by omega)
   simpa [Addr.add] using World.cell?_spot h00
  subst hs
  refine ⟨b,o,rfl,?_⟩
  rw [Go.WideShapes.add_plain] at h2
  rw [h2]
  rw [List.getElem?_map,List.getElem?_take,if_pos hj1] at hj
  rw [List.getD_eq_getElem?_getD]
  cases e:ss[j]? with
  | none=>rw [e] at hj;cases hj
  | some s =>
    rw [e] at hj
    obtain rfl:s.data.toList=x:=by simpa using hj
    rfl
end
structure LasIn (W:World) (v:Value) (ap:Option Addr) (cp:Nat) (P:List Int) (al:Option Addr) (cl:Nat) (L:List Int):Prop where
 val:v = .agg #[.slice ap P.length cp,.slice al L.length cl]
 hcp:P.length≤cp
 hcl:L.length≤cl
 mp:P.length≤17592186044416
 ml:L.length≤17592186044416
 rp:URow W ap P
 rl:URow W al L
 np:ap=none→cp=0
 nl:al=none→cl=0
section
variable {H : Type} {enc : TypeId × Value → H} {P : Program} {w : World} {base : Nat} {spare : Nat → Bool} {held : Bool}
theorem struct_fields {e:TypeId} {fs:Array Field} {n:Nat} {cs:List Value} {x:DataW H × List MemPlace} (he:P.underlying e=some (.struct fs)) (hone:Go.Deep.oneCellFields P fs=true) (hC:P.cellsOf e=fs.size)
 (h:DataW.trod enc P w base spare held n e cs=some x) (hw:∀ k,k∈x.1.weights P e→k≤reachBytes) :
 cs.length=fs.size∧∀ (j:Nat) (f:Field),fs[j]? = some f→∃ (v:Value) (y:DataW H × List MemPlace) (m:Nat),cs[j]? = some v∧DataW.trod enc P w base spare held m f.type [v]=some y∧∀ k,k∈y.1.weights P f.type→k≤reachBytes:=by
 obtain ⟨xs,m,_,hx,hcl,hxl,hf⟩:=DataW.trod_struct he h
 rw [hC] at hcl
 refine ⟨hcl,fun j f hj=>?_⟩
 obtain ⟨ho,hk⟩:=Go.Deep.hone_of hone j f hj
 have hlt:j < fs.size:=(Array.getElem?_eq_some_iff.1 hj).1
 have h1:=hf j f hj
 rw [ho,hk,List.drop_eq_getElem_cons (by omega),List.take_succ_cons,List.take_zero] at h1
 refine ⟨cs[j],xs[j],m,List.getElem?_eq_getElem (by omega),h1.trans (List.getElem?_eq_getElem (by omega)),fun k hkk=>hw k ?_⟩
 rw [hx]
 simp only [DataW.weights,he]
 refine DataW.weights_mem_each (j:=j) (t:=f.type) (d:=xs[j].1) ?_ ?_ k hkk
 ·rw [List.getElem?_map]
  have:fs.toList[j]? = some f:=by simpa using hj
  rw [this];rfl
 ·rw [List.getElem?_map,List.getElem?_eq_getElem (by omega)];rfl
theorem sized_at {ts:List TypeId} {ds:List (DataW H)} (h:(DataW.weightsEach P ts ds).all (·≤reachBytes)=true) {j:Nat} {t:TypeId} {d:DataW H} (ht:ts[j]? = some t) (hd:ds[j]? = some d):∀ k,k∈d.weights P t→k≤reachBytes:=fun k hk=>by
 have:=List.all_eq_true.1 h _ (DataW.weights_mem_each ht hd k hk)
 simpa using this
end
theorem open_uints {H:Type} {enc:TypeId × Value→H} {W:World} {fuel:Nat} {c:Value} {x:DataW H × List MemPlace} (hf:DataW.trod enc Tryz.prog W 0 (fun _=>true) true fuel 26 [c]=some x) (hw:∀ k,k∈x.1.weights Tryz.prog 26→k≤reachBytes) :
 ∃ a M cp,c = .slice a M.length cp∧M.length≤cp∧M.length≤17592186044416∧URow W a M∧(a=none→cp=0):=by
 rcases open_ints Tryz.underlying26 Tryz.underlying53 (by kernel_rfl) hf with ⟨hcs,_⟩ | ⟨a,len',cap',zs,hcs,_,hl,hm,hz,hx,hc,_⟩
 ·simp at hcs
  exact ⟨none,[],0,hcs,Nat.le_refl _,Nat.zero_le _,fun j x h=>by simp at h,fun _=>rfl⟩
 ·simp at hcs hz
  have hlen:(zs.take len').length=len':=by rw [List.length_take];omega
  have hbd:len'≤17592186044416:=by
   have e8:Tryz.prog.bytesOf 53=8:=by kernel_rfl
   have h1:=hw ((zs.take len').length * 8+(zs.drop len').length * 8) (by
    rw [hx]
    simp only [DataW.weights,Tryz.underlying26,List.mem_cons]
    left
    simp only [lits,List.length_map,e8]
    omega)
   unfold reachBytes at h1
   rw [hlen] at h1
   omega
  refine ⟨some a,zs.take len',cap',by rw [hlen];exact hcs,by omega,by omega,fun j x hj=>⟨a,rfl,?_⟩,fun e=>by simp at e⟩
  have hj1:j < len':=by
   have:=(List.getElem?_eq_some_iff.1 hj).1
   omega
  rw [List.getElem?_take,if_pos hj1] at hj
  have h2:=hc j (by omega)
  rw [List.getD_eq_getElem?_getD,hj] at h2
  exact h2
theorem open_lasso {H:Type} {enc:TypeId × Value→H} {W:World} {b0:Nat} {v:Value} {d:DataW H} {p:List MemPlace} (hv:Value.okWide Tryz.prog W .any b0 28 v) (h:DataW.Trod enc Tryz.prog W 0 (fun _=>true) true 28 v d p) (hw:∀ k,k∈d.weights Tryz.prog 28→k≤reachBytes) :
 ∃ ap cp P al cl L,LasIn W v ap cp P al cl L:=by
 unfold Value.okWide at hv
 rw [Tryz.underlying28] at hv
 obtain ⟨cs,rfl,hcs,_⟩:=hv
 obtain ⟨fuel,hf⟩:=h
 have hcs2:cs.size=2:=hcs.trans (by kernel_rfl)
 obtain ⟨c0,c1,rfl⟩:∃ c0 c1,cs=#[c0,c1]:=by
  obtain ⟨l⟩:=cs
  match l,hcs2 with
  | [a,b],_=>exact ⟨a,b,rfl⟩
 obtain ⟨_,hfd⟩:=struct_fields Tryz.underlying28 (by kernel_rfl) (by kernel_rfl) hf hw
 obtain ⟨u0,y0,m0,e0,t0,w0⟩:=hfd 0 _ rfl
 obtain ⟨u1,y1,m1,e1,t1,w1⟩:=hfd 1 _ rfl
 obtain rfl:c0=u0:=by simpa [Value.cells] using e0
 obtain rfl:c1=u1:=by simpa [Value.cells] using e1
 obtain ⟨ap,P,cp,rfl,a1,a2,a3,a4⟩:=open_uints t0 w0
 obtain ⟨al,L,cl,rfl,b1,b2,b3,b4⟩:=open_uints t1 w1
 exact ⟨ap,cp,P,al,cl,L,rfl,a1,b1,a2,b2,a3,b3,a4,b4⟩
end Go.Proofs.YtkgfdgfhpdhhaaaGreat
namespace Go.Proofs.YtkgfdgfhpdhhaaaGreat.PL
section
variable {np n : Nat} {A B : List Bool}
def goesF (A B:List Bool) (e:Bool) (p:Nat):Nat→Bool
 | 0=>e
 | m+1=>A.getD p false || (B.getD p false&&goesF A B e (p+1) m)
theorem sweepTo_length (L:List Bool):∀ m,(sweepTo np n A B m L).length=L.length:=by
 intro m
 induction m generalizing L with
 | zero=>rfl
 | succ m ih=>rw [sweepTo,ih,updL,List.length_set]
theorem sweep_goes (e:Bool):∀ (m:Nat) (L:List Bool),L.length=n→m≤n→(m=n→L.getD np false=e)→(∀ p,m≤p→p < n→L.getD p false=goesF A B e p (n - p))→∀ p,p < n→(sweepTo np n A B m L).getD p false=goesF A B e p (n - p):=by
 intro m
 induction m with
 | zero=>intro L hl _ _ h p hp;exact h p (Nat.zero_le _) hp
 | succ m ih =>
   intro L hl hm he h p hp
   rw [sweepTo]
   refine ih _ (by rw [updL,List.length_set];exact hl) (by omega) (fun e1=>by omega) (fun q hq hqn=>?_) p hp
   rw [updL]
   by_cases hqm:q=m
   ·subst hqm
    rw [List.getD_eq_getElem?_getD,List.getElem?_set_self (by omega)]
    rw [show n - q=(n - (q+1))+1 by omega,goesF]
    unfold nextN
    split
    ·rename_i h1
     rw [he h1,show n - (q+1)=0 by omega];rfl
    ·rw [h (q+1) (by omega) (by omega)];rfl
   ·rw [List.getD_eq_getElem?_getD,List.getElem?_set_ne (Ne.symm hqm),← List.getD_eq_getElem?_getD]
    exact h q (by omega) hqn
def stN (np n:Nat):Nat→Nat→Nat
 | 0,p=>p
 | d+1,p=>stN np n d (nextN np n p)
theorem nextN_lt (hnp:np < n) {p:Nat} (hp:p < n):nextN np n p < n:=by unfold nextN;split <;> omega
theorem stN_lt (hnp:np < n):∀ (d:Nat) {p:Nat},p < n→stN np n d p < n:=by
 intro d
 induction d with
 | zero=>intro p hp;exact hp
 | succ d ih=>intro p hp;exact ih (nextN_lt hnp hp)
theorem stN_add (d e p:Nat):stN np n (d+e) p=stN np n e (stN np n d p):=by
 induction d generalizing p with
 | zero=>rw [Nat.zero_add];rfl
 | succ d ih=>rw [Nat.succ_add];exact ih _
theorem stN_one (d p:Nat):stN np n (d+1) p=nextN np n (stN np n d p):=by rw [stN_add];rfl
theorem stN_small {d p:Nat} (h:p+d < n):stN np n d p=p+d:=by
 induction d generalizing p with
 | zero=>rfl
 | succ d ih =>
   rw [stN,show nextN np n p=p+1 by unfold nextN;rw [if_neg (by omega)],ih (by omega)];omega
theorem stN_round (hnp:np < n):stN np n (n - np) np=np:=by
 rw [show n - np=(n - np - 1)+1 by omega,stN_one,stN_small (by omega)]
 unfold nextN
 rw [if_pos (by omega)]
theorem stN_mod (hnp:np < n) (d:Nat):stN np n d np=np+d % (n - np):=by
 induction d using Nat.strongRecOn with
 | ind d ih =>
   rcases Nat.lt_or_ge d (n - np) with h | h
   ·rw [stN_small (by omega),Nat.mod_eq_of_lt h]
   ·rw [show d=(n - np)+(d - (n - np)) by omega,stN_add,stN_round hnp,ih _ (by omega),Nat.add_mod_left]
def FX (b:Bool) (A B:Nat→Prop) (i:Nat):Prop:=(∃ d,A (i+d)∧∀ j,j < d→B (i+j))∨(b=true∧∀ j,B (i+j))
theorem FX.step {b:Bool} {A B:Nat→Prop} {i:Nat}:FX b A B i↔A i∨(B i∧FX b A B (i+1)):=by
 unfold FX
 constructor
 ·rintro (⟨d,h,k⟩ | ⟨h,k⟩)
  ·cases d with
   | zero=>exact .inl h
   | succ d=>exact .inr ⟨k 0 (by omega),.inl ⟨d,by rw [Nat.add_assoc,Nat.add_comm 1];exact h,fun j hj=>by rw [Nat.add_assoc,Nat.add_comm 1];exact k (j+1) (by omega)⟩⟩
  ·exact .inr ⟨k 0,.inr ⟨h,fun j=>by rw [Nat.add_assoc,Nat.add_comm 1];exact k (j+1)⟩⟩
 ·rintro (h | ⟨h,⟨d,h1,k⟩ | ⟨h1,k⟩⟩)
  ·exact .inl ⟨0,h,fun j hj=>absurd hj (Nat.not_lt_zero j)⟩
  ·refine .inl ⟨d+1,by rw [Nat.add_comm d,← Nat.add_assoc];exact h1,fun j hj=>?_⟩
   cases j with
   | zero=>exact h
   | succ j=>rw [Nat.add_comm j,← Nat.add_assoc];exact k j (by omega)
  ·refine .inr ⟨h1,fun j=>?_⟩
   cases j with
   | zero=>exact h
   | succ j=>rw [Nat.add_comm j,← Nat.add_assoc];exact k j
theorem FX.congr {b:Bool} {A B A' B':Nat→Prop} (hA:∀ i,A i↔A' i) (hB:∀ i,B i↔B' i) (i:Nat):FX b A B i↔FX b A' B' i:=by
 unfold FX
 simp only [hA,hB]
def atS (np n p:Nat) (A:List Bool) (d:Nat):Prop:=A.getD (stN np n d p) false=true
theorem goesF_iff {e:Bool} {p m:Nat}:goesF A B e p m=true↔(∃ d,d < m∧A.getD (p+d) false=true∧∀ j,j < d→B.getD (p+j) false=true)∨(e=true∧∀ j,j < m→B.getD (p+j) false=true):=by
 induction m generalizing p with
 | zero=>simp [goesF]
 | succ m ih =>
   rw [goesF,Bool.or_eq_true,Bool.and_eq_true,ih]
   constructor
   ·rintro (h | ⟨h,⟨d,h0,h1,h2⟩ | ⟨h1,h2⟩⟩)
    ·exact .inl ⟨0,by omega,h,fun j hj=>absurd hj (Nat.not_lt_zero j)⟩
    ·refine .inl ⟨d+1,by omega,by rw [Nat.add_comm d,← Nat.add_assoc];exact h1,fun j hj=>?_⟩
     cases j with
     | zero=>exact h
     | succ j=>rw [Nat.add_comm j,← Nat.add_assoc];exact h2 j (by omega)
    ·refine .inr ⟨h1,fun j hj=>?_⟩
     cases j with
     | zero=>exact h
     | succ j=>rw [Nat.add_comm j,← Nat.add_assoc];exact h2 j (by omega)
   ·rintro (⟨d,h0,h1,h2⟩ | ⟨h1,h2⟩)
    ·cases d with
     | zero=>exact .inl h1
     | succ d=>exact .inr ⟨h2 0 (by omega),.inl ⟨d,by omega,by rw [Nat.add_assoc,Nat.add_comm 1];exact h1,fun j hj=>by rw [Nat.add_assoc,Nat.add_comm 1];exact h2 (j+1) (by omega)⟩⟩
    ·exact .inr ⟨h2 0 (by omega),.inr ⟨h1,fun j hj=>by rw [Nat.add_assoc,Nat.add_comm 1];exact h2 (j+1) (by omega)⟩⟩
theorem goesF_loop (hnp:np < n) (b:Bool):goesF A B b np (n - np)=true↔FX b (atS np n np A) (atS np n np B) 0:=by
 rw [goesF_iff]
 unfold FX atS
 constructor
 ·rintro (⟨d,h0,h1,h2⟩ | ⟨h1,h2⟩)
  ·refine .inl ⟨d,?_,fun j hj=>?_⟩
   ·rw [Nat.zero_add,stN_small (by omega)];exact h1
   ·rw [Nat.zero_add,stN_small (by omega)];exact h2 j hj
  ·refine .inr ⟨h1,fun j=>?_⟩
   rw [Nat.zero_add,stN_mod hnp]
   exact h2 _ (Nat.mod_lt _ (by omega))
 ·rintro (⟨d,h1,h2⟩ | ⟨h1,h2⟩)
  ·rw [Nat.zero_add,stN_mod hnp] at h1
   refine .inl ⟨d % (n - np),Nat.mod_lt _ (by omega),h1,fun j hj=>?_⟩
   have hd:d % (n - np)≤d:=Nat.mod_le _ _
   have hd2:d % (n - np) < n - np:=Nat.mod_lt _ (by omega)
   have:=h2 j (by omega)
   rw [Nat.zero_add,stN_small (by omega)] at this
   exact this
  ·refine .inr ⟨h1,fun j hj=>?_⟩
   have:=h2 j
   rw [Nat.zero_add,stN_small (by omega)] at this
   exact this
theorem FX_next {b:Bool} {p:Nat}:FX b (atS np n (nextN np n p) A) (atS np n (nextN np n p) B) 0↔FX b (atS np n p A) (atS np n p B) 1:=by
 unfold FX atS
 simp only [Nat.add_comm 1,Nat.zero_add]
 rfl
theorem fixL_at (hnp:np < n) (b:Bool) {p:Nat} (hp:p < n):(fixL np n A B b).getD p false=true↔FX b (atS np n p A) (atS np n p B) 0:=by
 have h1:∀ p,p < n→(sweepTo np n A B n (List.replicate n b)).getD p false=goesF A B b p (n - p) :=
  sweep_goes b n _ List.length_replicate (Nat.le_refl _) (fun _=>by rw [List.getD_eq_getElem?_getD,List.getElem?_replicate_of_lt hnp];rfl) (fun p h h2=>by omega)
 have h2:∀ p,p < n→(fixL np n A B b).getD p false=goesF A B (goesF A B b np (n - np)) p (n - p):=by
  refine sweep_goes _ n _ (by rw [sweepTo_length,List.length_replicate]) (Nat.le_refl _) (fun _=>h1 np hnp) (fun p h h2=>by omega)
 rw [h2 p hp]
 have key:∀ m p,p+m+1=n→(goesF A B (goesF A B b np (n - np)) p (m+1)=true↔FX b (atS np n p A) (atS np n p B) 0):=by
  intro m
  induction m with
  | zero =>
    intro p hp
    rw [goesF,goesF,Bool.or_eq_true,Bool.and_eq_true,goesF_loop hnp,FX.step (A:=atS np n p A) (B:=atS np n p B)]
    have:=FX_next (b:=b) (np:=np) (n:=n) (p:=p) (A:=A) (B:=B)
    rw [show nextN np n p=np by unfold nextN;rw [if_pos (by omega)]] at this
    rw [this];rfl
  | succ m ih =>
    intro p hp
    rw [goesF,Bool.or_eq_true,Bool.and_eq_true,ih (p+1) (by omega),FX.step (A:=atS np n p A) (B:=atS np n p B)]
    have:=FX_next (b:=b) (np:=np) (n:=n) (p:=p) (A:=A) (B:=B)
    rw [show nextN np n p=p+1 by unfold nextN;rw [if_neg (by omega)]] at this
    rw [this];rfl
 have:=key (n - p - 1) p (by omega)
 rwa [show n - p - 1+1=n - p by omega] at this
def posN (np n i:Nat):Nat:=stN np n i 0
theorem posN_lt (hnp:np < n) (i:Nat):posN np n i < n:=stN_lt hnp i (by omega)
theorem posN_next (i:Nat):posN np n (i+1)=nextN np n (posN np n i):=stN_one i 0
theorem posN_add (i d:Nat):posN np n (i+d)=stN np n d (posN np n i):=stN_add i d 0
theorem fixL_pos (hnp:np < n) (b:Bool) (i:Nat):(fixL np n A B b).getD (posN np n i) false=true↔FX b (fun i=>A.getD (posN np n i) false=true) (fun i=>B.getD (posN np n i) false=true) i:=by
 rw [fixL_at hnp b (posN_lt hnp i)]
 unfold FX atS
 simp only [posN_add,Nat.zero_add]
end
end Go.Proofs.YtkgfdgfhpdhhaaaGreat.PL
