/- Parts of the walks and of the plain theory, the first: Rows of moves that are one's own. Conditions: as each theorem states. -/
import Derived.Test.YtkgfdgfhpdhhaaaGreatT14
import Derived.Laws.EntriesVeiled
namespace Go.Proofs.YtkgfdgfhpdhhaaaGreat
open Go.ChangeShapes Go.WideShapes Go.RowKit
attribute [local go_sem] Oper.semAt_some
def zeroM:List Value:=[.int .u64 0,.int .u64 0,.slice none 0 0]
theorem Tryz.info75m:(Tryz.prog.info? 75).map (fun i=>(i.zero,i.size,i.bytes))=some (some (.agg zeroM.toArray),3,40):=by kernel_rfl
theorem info75_parts:∃ i,Tryz.prog.info? 75=some i∧i.zero=some (.agg zeroM.toArray)∧i.size=3∧i.bytes=40:=by
 have h:=Tryz.info75m
 cases hi:Tryz.prog.info? 75 with
 | none=>rw [hi] at h;simp at h
 | some i=>rw [hi] at h;simp at h;exact ⟨i,rfl,h.1,h.2.1,h.2.2⟩
theorem append75 {B:Nat} {w:World} {v:Value} {n:Nat} {xs ys:List Value} {g:Nat} {c:Nat} (h:w.ownsRow B 75 3 v n xs) (hB:B≤w.heap.size) (hn:n≤100000000) (hy:ys.length=3) (h1:∀ u∈ys,u.oneCell'=true) (hg:w.heap[g]? = some (.cells ys.toArray c (0,0))) :
 ∃ g' cap w',(Builtin.append_ #[67,67] 67 #[v,.slice (some ⟨g,0,none⟩) 1 1]).run Tryz.prog w = .ok (.slice (some ⟨g',0,none⟩) (n+1) cap) w'∧w'.ownsRow B 75 3 (.slice (some ⟨g',0,none⟩) (n+1) cap) (n+1) (xs++ys)∧w.grownBy w' v.ownBlock∧(v.ownBlock=some g'∨g'=w.heap.size)∧g' < w'.heap.size:=by
 obtain ⟨i,hi,hz,hs,hb⟩:=info75_parts
 exact run_append_lies (P:=Tryz.prog) w 67 67 B 75 i _ 3 40 Tryz.underlying67 hi hz hs hb rfl (by decide) v n _ h ⟨g,0,none⟩ 1 1 ys hy
  (fun j u hj=>by rw [Go.WideShapes.add_plain,Nat.zero_add];exact cell_row hg j (by simpa using hj)) h1 (by decide) (by unfold maxLen;omega) (by omega) hB _ rfl
abbrev MvS:=Mvi × Option Addr × Nat
def cellsM (x:MvS):List Value:=[.int .u64 x.1.yes,.int .u64 x.1.no,.slice x.2.1 x.1.to.length x.2.2]
theorem cellsM_one (x:MvS):∀ u∈cellsM x,u.oneCell'=true:=by
 intro u hu
 simp [cellsM] at hu
 rcases hu with rfl | rfl | rfl <;> rfl
theorem flatM_at:∀ {l:List MvS} {j:Nat} {x:MvS},l[j]? = some x→∀ {q:Nat},q < 3→(l.flatMap cellsM)[j * 3+q]? = (cellsM x)[q]?
 | [],_,_,h,_,_=>by simp at h
 | y::l,0,x,h,q,hq=>by
   obtain rfl:y=x:=by simpa using h
   rw [List.flatMap_cons,Nat.zero_mul,Nat.zero_add,List.getElem?_append_left (by simpa [cellsM] using hq)]
 | y::l,j+1,x,h,q,hq=>by
   rw [List.flatMap_cons,List.getElem?_append_right (by simp [cellsM];omega)]
   have:=flatM_at (l:=l) (j:=j) (x:=x) (by simpa using h) hq
   rw [← this]
   congr 1
   simp [cellsM]
   omega
structure MOwn (W:World) (lo:Nat) (sl:Value) (ms:List Mvi) (xs:List MvS):Prop where
 own:W.ownsRow lo 75 3 sl ms.length (xs.flatMap cellsM)
 fst:xs.map (·.1)=ms
 tos:∀ x∈xs,x.1.to.length≤2000000∧TRow W 0 x.2.1 x.1.to∧(x.2.1=none→x.2.2=0)
theorem TRow.typed {S:Nat→Prop} {W W':World} {lo:Nat} {ao:Option Addr} {l:List Int} (h:TRow W lo ao l) (hc:Chg S W W') (hs:∀ q,S q→∀ cs m,W.heap[q]?≠some (.cells cs 3 m)):TRow W' lo ao l:=by
 refine ⟨fun j x hj=>?_,fun hne=>?_⟩
 ·obtain ⟨a,e,c⟩:=h.1 j x hj
  obtain ⟨g,cs,m,e2,_,hb⟩:=h.2 (fun e=>by rw [e] at hj;simp at hj)
  rw [e] at e2
  cases e2
  refine ⟨_,e,hc.cell' c ?_⟩
  rw [Go.WideShapes.add_plain]
  exact fun hq=>hs g hq cs m hb
 ·obtain ⟨g,cs,m,e2,hlo,hb⟩:=h.2 hne
  exact ⟨g,cs,m,e2,hlo,hc.at hb (fun hq=>hs g hq cs m hb)⟩
theorem TRow.nob {W W':World} {lo:Nat} {ao:Option Addr} {l:List Int} (h:TRow W lo ao l) (hc:Chg Nob W W'):TRow W' lo ao l:=h.typed hc (fun _ e=>e.elim)
theorem TRow.low {W:World} {lo lo':Nat} {ao:Option Addr} {l:List Int} (h:TRow W lo ao l) (hl:lo'≤lo):TRow W lo' ao l :=
 ⟨h.1,fun hne=>by obtain ⟨g,cs,m,e,hlo,hb⟩:=h.2 hne;exact ⟨g,cs,m,e,Nat.le_trans hl hlo,hb⟩⟩
theorem MOwn.nob {W W':World} {lo:Nat} {sl:Value} {ms:List Mvi} {xs:List MvS} (h:MOwn W lo sl ms xs) (hc:Chg Nob W W'):MOwn W' lo sl ms xs :=
 ⟨ownsRow_chg h.own hc (fun _ _ e=>e),h.fst,fun x hx=>by obtain ⟨a,b,c⟩:=h.tos x hx;exact ⟨a,b.nob hc,c⟩⟩
theorem MOwn.row {W:World} {lo:Nat} {sl:Value} {ms:List Mvi} {xs:List MvS} (h:MOwn W lo sl ms xs):∃ ao c,sl = .slice ao ms.length c∧MRow W ao ms:=by
 rcases Nat.eq_zero_or_pos ms.length with h0 | hpos
 ·obtain ⟨ao,c,e⟩:=ownsRow_shape h.own
  refine ⟨ao,c,e,fun j m hj=>?_⟩
  rw [List.length_eq_zero_iff.1 h0] at hj
  simp at hj
 ·obtain ⟨g,c,rfl,hc⟩:=ownsRow_some h.own hpos
  refine ⟨_,c,rfl,fun j m hj=>?_⟩
  have hx:(xs.map (·.1))[j]? = some m:=by rw [h.fst];exact hj
  rw [List.getElem?_map] at hx
  cases hxj:xs[j]? with
  | none=>rw [hxj] at hx;cases hx
  | some x =>
    rw [hxj] at hx
    obtain rfl:x.1=m:=by simpa using hx
    obtain ⟨t1,t2,_⟩:=h.tos x (List.mem_of_getElem? hxj)
    have q0:=hc (j * 3+0) _ ((flatM_at hxj (q:=0) (by decide)).trans rfl)
    have q1:=hc (j * 3+1) _ ((flatM_at hxj (q:=1) (by decide)).trans rfl)
    have q2:=hc (j * 3+2) _ ((flatM_at hxj (q:=2) (by decide)).trans rfl)
    rw [Go.WideShapes.add_plain] at q0 q1 q2
    exact ⟨g,0,x.2.1,x.2.2,rfl,q0,q1,q2,t1,t2.1⟩
set_option maxRecDepth 100000
set_option maxHeartbeats 8000000
def manyE:List PanicEntry:=[{ v:= .iface 57 (.agg #[]),recovered:=false }]
def keepStep (ms:List Mvi) (i k:Nat):Bool:=(k==i) || (!coversI (ms.getD k m0) (ms.getD i m0) || (decide (i < k)&&coversI (ms.getD i m0) (ms.getD k m0)))
def keepI (ms:List Mvi) (i n:Nat):Bool:=(List.range n).all fun k=>keepStep ms i k
def leastI (ms:List Mvi) (n:Nat):List Mvi:=((List.range n).filter fun i=>keepI ms i ms.length).map fun i=>ms.getD i m0
theorem keepI_succ (ms:List Mvi) (i n:Nat):keepI ms i (n+1)=(keepI ms i n&&keepStep ms i n):=by
 unfold keepI
 rw [List.range_succ,List.all_append]
 simp
theorem leastI_succ (ms:List Mvi) (n:Nat):leastI ms (n+1)=leastI ms n++(if keepI ms n ms.length then [ms.getD n m0] else []):=by
 unfold leastI
 rw [List.range_succ,List.filter_append,List.map_append]
 congr 1
 by_cases h:keepI ms n ms.length <;> simp [h]
def MIn (W:World) (ao:Option Addr) (xs:List MvS):Prop:=∀ j x,xs[j]? = some x→∃ b o,ao=some ⟨b,o,none⟩∧W.cell? ⟨b,o+j * 3,none⟩=some (.int .u64 x.1.yes)∧W.cell? ⟨b,o+j * 3+1,none⟩=some (.int .u64 x.1.no)∧W.cell? ⟨b,o+j * 3+2,none⟩=some (.slice x.2.1 x.1.to.length x.2.2)∧x.1.to.length≤2000000∧TRow W 0 x.2.1 x.1.to∧(x.2.1=none→x.2.2=0)
theorem MIn.nob {W W':World} {ao:Option Addr} {xs:List MvS} (h:MIn W ao xs) (hc:Chg Nob W W'):MIn W' ao xs:=fun j x hj=>by
 obtain ⟨b,o,e,c0,c1,c2,hl,ht,hn⟩:=h j x hj
 exact ⟨b,o,e,hc.cell' c0 (fun e=>e),hc.cell' c1 (fun e=>e),hc.cell' c2 (fun e=>e),hl,ht.nob hc,hn⟩
theorem MOwn.min {W:World} {lo:Nat} {sl:Value} {ms:List Mvi} {xs:List MvS} (h:MOwn W lo sl ms xs):∃ ao c,sl = .slice ao ms.length c∧MIn W ao xs:=by
 rcases Nat.eq_zero_or_pos ms.length with h0 | hpos
 ·obtain ⟨ao,c,e⟩:=ownsRow_shape h.own
  refine ⟨ao,c,e,fun j x hj=>?_⟩
  have hl:xs.length=ms.length:=by rw [← h.fst,List.length_map]
  have:=(List.getElem?_eq_some_iff.1 hj).1
  omega
 ·obtain ⟨g,c,rfl,hc⟩:=ownsRow_some h.own hpos
  refine ⟨_,c,rfl,fun j x hxj=>?_⟩
  obtain ⟨t1,t2,t3⟩:=h.tos x (List.mem_of_getElem? hxj)
  have q0:=hc (j * 3+0) _ ((flatM_at hxj (q:=0) (by decide)).trans rfl)
  have q1:=hc (j * 3+1) _ ((flatM_at hxj (q:=1) (by decide)).trans rfl)
  have q2:=hc (j * 3+2) _ ((flatM_at hxj (q:=2) (by decide)).trans rfl)
  rw [Go.WideShapes.add_plain] at q0 q1 q2
  exact ⟨g,0,rfl,q0,q1,q2,t1,t2,t3⟩
theorem MOwn.push {W:World} {lo:Nat} {sl:Value} {ms:List Mvi} {xs:List MvS} (h:MOwn W lo sl ms xs) (hlo:lo≤W.heap.size) (hn:ms.length≤1000000) (x:MvS) (hx:x.1.to.length≤2000000∧TRow W 0 x.2.1 x.1.to∧(x.2.1=none→x.2.2=0)) :
 ∃ sl' W',(Builtin.append_ #[67,67] 67 #[sl,.slice (some ⟨W.heap.size,0,none⟩) 1 1]).run Tryz.prog (W.alloc (.cells (cellsM x).toArray 75)) = .ok sl' W'∧MOwn W' lo sl' (ms++[x.1]) (xs++[x])∧Chg (fun q=>sl.ownBlock=some q) W W':=by
 have hA:Chg Nob W (W.alloc (.cells (cellsM x).toArray 75)):=(Chg.refl _ _).alloc _
 obtain ⟨g',cap,W',hrun,hrow,hgr,hlies,hg'⟩:=append75 (ownsRow_chg h.own hA (fun _ _ e=>e)) (by rw [World.size_alloc];omega) (by omega) (by rfl) (cellsM_one x) (heap_alloc_new W (.cells (cellsM x).toArray 75))
 have hc:Chg (fun q=>sl.ownBlock=some q) W W':=(hA.any (S:=fun q=>sl.ownBlock=some q)).trans1 ((Chg.refl _ _).grown hgr (fun q hq _=>hq))
 refine ⟨_,W',hrun,⟨?_,by rw [List.map_append,h.fst];rfl,fun y hy=>?_⟩,hc⟩
 ·rw [List.length_append,List.flatMap_append,List.flatMap_cons,List.flatMap_nil,List.append_nil]
  exact hrow
 ·have hty:∀ q,sl.ownBlock=some q→∀ cs m,W.heap[q]?≠some (.cells cs 3 m):=fun q hq cs m hb=>by
   obtain ⟨cs',m',hb2⟩:=ownsRow_block h.own q hq
   rw [hb] at hb2
   simp at hb2
  rcases List.mem_append.1 hy with hy | hy
  ·obtain ⟨a,b,c⟩:=h.tos y hy
   exact ⟨a,b.typed hc hty,c⟩
  ·obtain rfl:=List.mem_singleton.1 hy
   exact ⟨hx.1,hx.2.1.typed hc hty,hx.2.2⟩
section
variable {w : World} {ao : Option Addr} {ms : List Mvi} {xs : List MvS} {c : Nat} {mk : Value}
def LeastPost (ms:List Mvi) (w:World) (e:Ending) (w':World):Prop:=Chg Nob w w'∧((4096 < ms.length∧e = .panicked manyE)∨(ms.length≤4096∧∃ sl xs',e = .returned sl∧MOwn w' w.heap.size sl (leastI ms ms.length) xs'))
theorem least_any (hfst:xs.map (·.1)=ms) (h:MIn w ao xs):Calls Tryz.prog 116 #[mk,.slice ao ms.length c] w (LeastPost ms w):=by
 have hxl:xs.length=ms.length:=by rw [← hfst,List.length_map]
 have hget:∀ (j:Nat) (x:MvS),xs[j]? = some x→ms.getD j m0=x.1:=fun j x hj=>by
  rw [List.getD_eq_getElem?_getD,← hfst,List.getElem?_map,hj];rfl
 have H:=Lib.hid h
 have Hget:=Lib.hid hget
 have Hxl:=Lib.hid hxl
 clear h hget hfst hxl
 by_cases hbig:4096 < ms.length
 ·have hb:(4096:Int) < (ms.length:Int):=by omega
  go_enter Tryz.func116,Tryz.ntmps116
  go_wp2_with fail
  exact ⟨rfl,Chg.refl _ _,Or.inl ⟨hbig,rfl⟩⟩
 ·have hb:¬ (4096:Int) < (ms.length:Int):=by omega
  have hbd:decide ((4096:Int) < (ms.length:Int))=false:=decide_eq_false hb
  have H4:Hid (ms.length≤4096):=(show ms.length≤4096 by omega)
  go_enter Tryz.func116,Tryz.ntmps116
  go_wp2_with fail
  clear hb hbd hbig
  have hM4:ms.length≤4096:=H4.out
  go_loopw [5,18] (fun ov iv wr=>∃ (i:Nat) (xs':List MvS),iv = .int .i64 (i:Int)∧i≤ms.length∧Hid (MOwn wr w.heap.size ov (leastI ms i) xs')∧Hid (Chg Nob w wr)) (fun _ iv _=>ms.length - (intOf iv).toNat)
  case atStart=>exact ⟨0,[],rfl,Nat.zero_le _,(show MOwn w w.heap.size _ (leastI ms 0) [] from ⟨World.ownsRow_nil _ _ _ _,rfl,fun x hx=>by simp at hx⟩),Chg.refl _ _⟩
  case round =>
   obtain ⟨i,xs',rfl,hi,HO,Hc⟩:=hrel
   by_cases hlt:i < ms.length
   ·obtain ⟨x,hx⟩:∃ x,xs[i]? = some x:=⟨_,List.getElem?_eq_getElem (by have:=Hxl.out;omega)⟩
    obtain ⟨b,o,rfl,x0,x1,x2,hxl,hxt,hxn⟩:=(H.out.nob Hc.out) i x hx
    have Hx:=Lib.hid (Hget.out i x hx)
    have hii:(i:Int) < (ms.length:Int):=by omega
    have hi0:(0:Int)≤(i:Int):=by omega
    obtain ⟨Q,hQ,hcQ,hbQ,hsQ⟩:=box_cells wr #[.int .u64 x.1.yes,.int .u64 x.1.no,.slice x.2.1 x.1.to.length x.2.2] 75
    have HQ:=Lib.hid (Hc.out.trans1 hcQ)
    have HOQ:=Lib.hid (HO.out.nob hcQ)
    have HbQ:Hid (∀ V,Chg Nob Q V→V.cell? ⟨wr.heap.size,0,none⟩=some (.int .u64 x.1.yes)∧V.cell? ⟨wr.heap.size,1,none⟩=some (.int .u64 x.1.no)∧V.cell? ⟨wr.heap.size,2,none⟩=some (.slice x.2.1 x.1.to.length x.2.2)):=(show ∀ V,Chg Nob Q V→_∧_∧_ from fun V hV=>by
     obtain ⟨q0,q1,q2,_⟩:=cells_three hbQ
     exact ⟨hV.cell' q0 (fun e=>e),hV.cell' q1 (fun e=>e),hV.cell' q2 (fun e=>e)⟩)
    have Hxt:Hid (x.1.to.length≤2000000∧TRow Q 0 x.2.1 x.1.to∧(x.2.1=none→x.2.2=0)):=Lib.hid ⟨hxl,hxt.nob hcQ,hxn⟩
    clear hx hxl hxt hxn hbQ hcQ hsQ
    go_upto_region 7 with fail
    rw [← hQ]
    clear hQ x0 x1 x2
    generalize hqb:wr.heap.size=qb at *
    clear hqb
    go_wp2_with fail
    go_loopw [8,25] (fun bv kv W=>∃ (k:Nat) (kb:Bool),kv = .int .i64 (k:Int)∧bv = .bool kb∧k≤ms.length∧Hid (kb=keepI ms i k)∧Hid (Chg Nob Q W)) (fun _ kv _=>ms.length - (intOf kv).toNat)
    case atStart=>exact ⟨0,true,rfl,rfl,Nat.zero_le _,(show true=keepI ms i 0 by rfl),Chg.refl _ _⟩
    case round =>
     obtain ⟨k,kb,rfl,rfl,hk,Hkb,Hc2⟩:=hrel
     by_cases hkl:k < ms.length
     ·obtain ⟨y,hy⟩:∃ y,xs[k]? = some y:=⟨_,List.getElem?_eq_getElem (by have:=Hxl.out;omega)⟩
      obtain ⟨b',o',hbo,y0,y1,y2,hyl,hyt,_⟩:=(H.out.nob (HQ.out.trans1 Hc2.out)) k y hy
      cases hbo
      have Hy:=Lib.hid (Hget.out k y hy)
      have hki:(k:Int) < (ms.length:Int):=by omega
      have hk0:(0:Int)≤(k:Int):=by omega
      obtain ⟨E,hE,hcE,hbE,hsE⟩:=box_cells wr #[.int .u64 y.1.yes,.int .u64 y.1.no,.slice y.2.1 y.1.to.length y.2.2] 75
      have HE:Hid (∀ V,Chg Nob E V→V.cell? ⟨wr.heap.size,0,none⟩=some (.int .u64 y.1.yes)∧V.cell? ⟨wr.heap.size,1,none⟩=some (.int .u64 y.1.no)∧V.cell? ⟨wr.heap.size,2,none⟩=some (.slice y.2.1 y.1.to.length y.2.2)):=(show ∀ V,Chg Nob E V→_∧_∧_ from fun V hV=>by
       obtain ⟨q0,q1,q2,_⟩:=cells_three hbE
       exact ⟨hV.cell' q0 (fun e=>e),hV.cell' q1 (fun e=>e),hV.cell' q2 (fun e=>e)⟩)
      have HcE:=Lib.hid (Hc2.out.trans1 hcE)
      have Hp1:Hid (∀ V,Chg Nob E V→Calls Tryz.prog 155 #[.agg #[.int .u64 y.1.yes,.int .u64 y.1.no,.slice y.2.1 y.1.to.length y.2.2],.agg #[.int .u64 x.1.yes,.int .u64 x.1.no,.slice x.2.1 x.1.to.length x.2.2]] V fun e w'=>e = .returned (.bool (coversI y.1 x.1))∧Chg Nob V w'):=Lib.hid (fun V hV=>covers_any hyl Hxt.out.1 ((hyt.nob hcE).nob hV).1 (Hxt.out.2.1.nob (HcE.out.trans1 hV)).1)
      have Hp2:Hid (∀ V,Chg Nob E V→Calls Tryz.prog 155 #[.agg #[.int .u64 x.1.yes,.int .u64 x.1.no,.slice x.2.1 x.1.to.length x.2.2],.agg #[.int .u64 y.1.yes,.int .u64 y.1.no,.slice y.2.1 y.1.to.length y.2.2]] V fun e w'=>e = .returned (.bool (coversI x.1 y.1))∧Chg Nob V w'):=Lib.hid (fun V hV=>covers_any Hxt.out.1 hyl (Hxt.out.2.1.nob (HcE.out.trans1 hV)).1 ((hyt.nob hcE).nob hV).1)
      obtain ⟨c1,hc1⟩:∃ c1,c1=coversI y.1 x.1:=⟨_,rfl⟩
      obtain ⟨c2,hc2⟩:∃ c2,c2=coversI x.1 y.1:=⟨_,rfl⟩
      rw [← hc1] at Hp1
      rw [← hc2] at Hp2
      have Hstep:∀ z:Bool,z=(kb&&((k==i) || (!c1 || (decide (i < k)&&c2))))→Hid (z=keepI ms i (k+1)):=fun z hz=>Lib.hid (by
       rw [keepI_succ,← Hkb.out,hz]
       unfold keepStep
       rw [Hx.out,Hy.out,← hc1,← hc2])
      have hXE:=HbQ.out
      clear hy hyl hyt hbE hcE hsE hc1 hc2
      go_upto_region 11 with fail
      rw [← hE]
      clear hE y0 y1 y2
      generalize hye:wr.heap.size=ye at *
      clear hye
      cases kb with
      | false =>
        have H2:=Hstep false rfl
        clear Hstep
        go_wp2_with fail
        go_roundw
        case rel=>exact ⟨k+1,false,by go_num,rfl,by omega,H2,HcE⟩
        case measure=>simp [intOf];omega
      | true =>
        by_cases hki2:k=i
        ·have hkb:(k==i)=true:=beq_iff_eq.2 hki2
         have H2:=Hstep true (by rw [hkb];rfl)
         have hkI:(k:Int)=(i:Int):=by omega
         clear Hstep
         go_wp2_with fail
         go_roundw
         case rel=>exact ⟨k+1,true,by go_num,rfl,by omega,H2,HcE⟩
         case measure=>simp [intOf];omega
        ·have hkb:(k==i)=false:=beq_eq_false_iff_ne.2 hki2
         have hkI:((k:Int)==(i:Int))=false:=beq_eq_false_iff_ne.2 (by omega)
         obtain ⟨q0,q1,q2⟩:=HbQ.out E HcE.out
         obtain ⟨r0,r1,r2⟩:=HE.out E (Chg.refl _ _)
         have hp:=Hp1.out E (Chg.refl _ _)
         go_wp2_with fail
         (with_reducible refine hp.mono ?_)
         clear hp q0 q1 q2 r0 r1 r2
         rintro e w5 ⟨rfl,hc5⟩
         have H5:Hid (Chg Nob E w5):=Lib.hid hc5
         have H5q:Hid (Chg Nob Q w5):=Lib.hid (HcE.out.trans1 hc5)
         clear hc5
         cases c1 with
         | false =>
           have H2:=Hstep true (by rw [hkb];rfl)
           clear Hstep
           go_wp2_with fail
           go_roundw
           case rel=>exact ⟨k+1,true,by go_num,rfl,by omega,H2,H5q⟩
           case measure=>simp [intOf];omega
         | true =>
           by_cases hik:i < k
           ·have hiki:(i:Int) < (k:Int):=by omega
            have hikd:decide (i < k)=true:=decide_eq_true hik
            obtain ⟨q0,q1,q2⟩:=HbQ.out w5 H5q.out
            obtain ⟨r0,r1,r2⟩:=HE.out w5 H5.out
            have hp:=Hp2.out w5 H5.out
            have H2:=Hstep c2 (by rw [hkb,hikd];cases c2 <;> rfl)
            clear Hstep
            go_wp2_with fail
            (with_reducible refine hp.mono ?_)
            clear hp q0 q1 q2 r0 r1 r2
            rintro e w6 ⟨rfl,hc6⟩
            have H6q:Hid (Chg Nob Q w6):=Lib.hid (H5q.out.trans1 hc6)
            clear hc6
            go_wp2_with fail
            go_roundw
            case rel=>exact ⟨k+1,c2,by go_num,rfl,by omega,H2,H6q⟩
            case measure=>simp [intOf];omega
           ·have hiki:¬ (i:Int) < (k:Int):=by omega
            have hikid:decide ((i:Int) < (k:Int))=false:=decide_eq_false hiki
            have hikd:decide (i < k)=false:=decide_eq_false hik
            have H2:=Hstep false (by rw [hkb,hikd];rfl)
            clear Hstep
            go_wp2_with fail
            go_roundw
            case rel=>exact ⟨k+1,false,by go_num,rfl,by omega,H2,H5q⟩
            case measure=>simp [intOf];omega
     ·have hke:k=ms.length:=by omega
      have hki:¬ (k:Int) < (ms.length:Int):=by omega
      have hkid:decide ((k:Int) < (ms.length:Int))=false:=decide_eq_false hki
      have hkin:decide (k < ms.length)=false:=decide_eq_false hkl
      have HOW:=Lib.hid (HOQ.out.nob Hc2.out)
      have HcW:=Lib.hid (HQ.out.trans1 Hc2.out)
      rw [hke] at Hkb
      clear hke
      cases kb with
      | false =>
        have H2:Hid (MOwn wr w.heap.size u5 (leastI ms (i+1)) xs'):=(show MOwn wr w.heap.size u5 (leastI ms (i+1)) xs' by
         rw [leastI_succ,← Hkb.out,if_neg Bool.false_ne_true,List.append_nil]
         exact HOW.out)
        go_wp2_with fail
        go_roundw
        case rel=>exact ⟨i+1,xs',by go_num,by omega,H2,HcW⟩
        case measure=>simp [intOf];omega
      | true =>
        have hll:(leastI ms i).length≤1000000:=by
         unfold leastI
         rw [List.length_map]
         have:=List.length_filter_le (fun i=>keepI ms i ms.length) (List.range i)
         rw [List.length_range] at this
         omega
        obtain ⟨sl',W',hrun,hown,hcw⟩:=HOW.out.push HcW.out.size hll x ⟨Hxt.out.1,Hxt.out.2.1.nob Hc2.out,Hxt.out.2.2⟩
        have H2:Hid (MOwn W' w.heap.size sl' (leastI ms (i+1)) (xs'++[x])):=(show MOwn W' w.heap.size sl' (leastI ms (i+1)) (xs'++[x]) by
         rw [leastI_succ,← Hkb.out,if_pos rfl,Hx.out]
         exact hown)
        have H3:Hid (Chg Nob w W'):=Lib.hid (HcW.out.trans hcw (fun q hq e=>by have:=(HOW.out.own.lt q e).1;omega))
        obtain ⟨q0,q1,q2⟩:=HbQ.out wr Hc2.out
        have Hrun:=Lib.hid hrun
        clear hrun hown hcw hll
        go_wp2_with (refine wpList_append_known rfl _ _ 67 67 rfl _ _ rfl rfl _ W' Hrun.out ?_)
        go_roundw
        case rel=>exact ⟨i+1,_,by go_num,by omega,H2,H3⟩
        case measure=>simp [intOf];omega
   ·obtain rfl:i=ms.length:=by omega
    go_wp2_with fail
    go_ret
    exact ⟨Hc.out,Or.inr ⟨H4.out,_,xs',rfl,HO.out⟩⟩
end
theorem Tryz.info73m:(Tryz.prog.info? 73).map (fun i=>(i.zero,i.size,i.bytes))=some (some (.slice none 0 0),1,24):=by kernel_rfl
theorem info73_parts:∃ i,Tryz.prog.info? 73=some i∧i.zero=some (.slice none 0 0)∧i.size=1∧i.bytes=24:=by
 have h:=Tryz.info73m
 cases hi:Tryz.prog.info? 73 with
 | none=>rw [hi] at h;simp at h
 | some i=>rw [hi] at h;simp at h;exact ⟨i,rfl,h.1,h.2.1,h.2.2⟩
abbrev StS:=List Int × Option Addr × Nat
def cellS (x:StS):Value:= .slice x.2.1 x.1.length x.2.2
theorem append35 {B:Nat} {w:World} {v:Value} {n:Nat} {xs:List Value} {g c:Nat} (y:StS) (h:w.ownsRow B 73 1 v n xs) (hB:B≤w.heap.size) (hn:n≤1000000) (hg:w.heap[g]? = some (.cells #[cellS y] c (0,0))) :
 ∃ g' cap w',(Builtin.append_ #[35,35] 35 #[v,.slice (some ⟨g,0,none⟩) 1 1]).run Tryz.prog w = .ok (.slice (some ⟨g',0,none⟩) (n+1) cap) w'∧w'.ownsRow B 73 1 (.slice (some ⟨g',0,none⟩) (n+1) cap) (n+1) (xs++[cellS y])∧w.grownBy w' v.ownBlock∧(v.ownBlock=some g'∨g'=w.heap.size)∧g' < w'.heap.size:=by
 obtain ⟨i,hi,hz,hs,hb⟩:=info73_parts
 exact run_append_lies (P:=Tryz.prog) w 35 35 B 73 i _ 1 24 Tryz.underlying35 hi hz hs hb rfl (by decide) v n _ h ⟨g,0,none⟩ 1 1 [cellS y] rfl
  (fun j u hj=>by rw [Go.WideShapes.add_plain,Nat.zero_add];exact cell_row hg j (by simpa using hj)) (by intro u hu;simp at hu;subst hu;rfl) (by decide) (by unfold maxLen;omega) (by omega) hB _ rfl
structure SOwn (W:World) (lo:Nat) (sl:Value) (ls:List (List Int)) (xs:List StS):Prop where
 own:W.ownsRow lo 73 1 sl ls.length (xs.map cellS)
 fst:xs.map (·.1)=ls
 tos:∀ x∈xs,x.1.length≤2000000∧TRow W 0 x.2.1 x.1∧(x.2.1=none→x.2.2=0)
theorem SOwn.nob {W W':World} {lo:Nat} {sl:Value} {ls:List (List Int)} {xs:List StS} (h:SOwn W lo sl ls xs) (hc:Chg Nob W W'):SOwn W' lo sl ls xs :=
 ⟨ownsRow_chg h.own hc (fun _ _ e=>e),h.fst,fun x hx=>by obtain ⟨a,b,c⟩:=h.tos x hx;exact ⟨a,b.nob hc,c⟩⟩
def SIn (W:World) (ao:Option Addr) (xs:List StS):Prop:=∀ j x,xs[j]? = some x→∃ b o,ao=some ⟨b,o,none⟩∧W.cell? ⟨b,o+j,none⟩=some (cellS x)∧x.1.length≤2000000∧TRow W 0 x.2.1 x.1∧(x.2.1=none→x.2.2=0)
theorem SIn.nob {W W':World} {ao:Option Addr} {xs:List StS} (h:SIn W ao xs) (hc:Chg Nob W W'):SIn W' ao xs:=fun j x hj=>by
 obtain ⟨b,o,e,c0,hl,ht,hn⟩:=h j x hj
 exact ⟨b,o,e,hc.cell' c0 (fun e=>e),hl,ht.nob hc,hn⟩
theorem SOwn.sin {W:World} {lo:Nat} {sl:Value} {ls:List (List Int)} {xs:List StS} (h:SOwn W lo sl ls xs):∃ ao c,sl = .slice ao ls.length c∧SIn W ao xs:=by
 rcases Nat.eq_zero_or_pos ls.length with h0 | hpos
 ·obtain ⟨ao,c,e⟩:=ownsRow_shape h.own
  refine ⟨ao,c,e,fun j x hj=>?_⟩
  have hl:xs.length=ls.length:=by rw [← h.fst,List.length_map]
  have:=(List.getElem?_eq_some_iff.1 hj).1
  omega
 ·obtain ⟨g,c,rfl,hc⟩:=ownsRow_some h.own hpos
  refine ⟨_,c,rfl,fun j x hxj=>?_⟩
  obtain ⟨t1,t2,t3⟩:=h.tos x (List.mem_of_getElem? hxj)
  have q0:=hc j (cellS x) (by rw [List.getElem?_map,hxj];rfl)
  rw [Go.WideShapes.add_plain] at q0
  exact ⟨g,0,rfl,q0,t1,t2,t3⟩
theorem SOwn.push {W:World} {lo:Nat} {sl:Value} {ls:List (List Int)} {xs:List StS} (h:SOwn W lo sl ls xs) (hlo:lo≤W.heap.size) (hn:ls.length≤1000000) (x:StS) (hx:x.1.length≤2000000∧TRow W 0 x.2.1 x.1∧(x.2.1=none→x.2.2=0)) :
 ∃ sl' W',(Builtin.append_ #[35,35] 35 #[sl,.slice (some ⟨W.heap.size,0,none⟩) 1 1]).run Tryz.prog (W.alloc (.cells #[cellS x] 73)) = .ok sl' W'∧SOwn W' lo sl' (ls++[x.1]) (xs++[x])∧Chg (fun q=>sl.ownBlock=some q) W W':=by
 have hA:Chg Nob W (W.alloc (.cells #[cellS x] 73)):=(Chg.refl _ _).alloc _
 obtain ⟨g',cap,W',hrun,hrow,hgr,hlies,hg'⟩:=append35 x (ownsRow_chg h.own hA (fun _ _ e=>e)) (by rw [World.size_alloc];omega) (by omega) (heap_alloc_new W (.cells #[cellS x] 73))
 have hc:Chg (fun q=>sl.ownBlock=some q) W W':=(hA.any (S:=fun q=>sl.ownBlock=some q)).trans1 ((Chg.refl _ _).grown hgr (fun q hq _=>hq))
 refine ⟨_,W',hrun,⟨?_,by rw [List.map_append,h.fst];rfl,fun y hy=>?_⟩,hc⟩
 ·rw [List.length_append,List.map_append]
  exact hrow
 ·have hty:∀ q,sl.ownBlock=some q→∀ cs m,W.heap[q]?≠some (.cells cs 3 m):=fun q hq cs m hb=>by
   obtain ⟨cs',m',hb2⟩:=ownsRow_block h.own q hq
   rw [hb] at hb2
   simp at hb2
  rcases List.mem_append.1 hy with hy | hy
  ·obtain ⟨a,b,c⟩:=h.tos y hy
   exact ⟨a,b.typed hc hty,c⟩
  ·obtain rfl:=List.mem_singleton.1 hy
   exact ⟨hx.1,hx.2.1.typed hc hty,hx.2.2⟩
def lessI (ls:List (List Int)) (i k:Nat):Bool:=!(k==i)&&(withinI (ls.getD k []) (ls.getD i [])&&(decide ((ls.getD k []).length < (ls.getD i []).length) || decide (k < i)))
def keepS (ls:List (List Int)) (i n:Nat):Bool:=(List.range n).all fun k=>!lessI ls i k
def fewestI (ls:List (List Int)) (n:Nat):List (List Int):=((List.range n).filter fun i=>keepS ls i ls.length).map fun i=>ls.getD i []
theorem keepS_succ (ls:List (List Int)) (i n:Nat):keepS ls i (n+1)=(keepS ls i n&&!lessI ls i n):=by
 unfold keepS
 rw [List.range_succ,List.all_append]
 simp
theorem fewestI_succ (ls:List (List Int)) (n:Nat):fewestI ls (n+1)=fewestI ls n++(if keepS ls n ls.length then [ls.getD n []] else []):=by
 unfold fewestI
 rw [List.range_succ,List.filter_append,List.map_append]
 congr 1
 by_cases h:keepS ls n ls.length <;> simp [h]
theorem less_fn {w:World} {ib sb i k:Nat} {o s:StS} {bb:Bool} (hi:w.cell? ⟨ib,0,none⟩=some (.int .i64 (i:Int))) (hs:w.cell? ⟨sb,0,none⟩=some (cellS s)) (ho1:o.1.length≤2000000) (hs1:s.1.length≤2000000) (ho:IRow w o.2.1 o.1) (hsr:IRow w s.2.1 s.1)
 (hb:bb=(!(k==i)&&(withinI o.1 s.1&&(decide (o.1.length < s.1.length) || decide (k < i))))) :
 Calls Tryz.prog 118 #[.int .i64 (k:Int),cellS o,.pointer (some ⟨ib,0,none⟩),.pointer (some ⟨sb,0,none⟩)] w fun e w'=>e = .returned (.bool bb)∧Chg Nob w w':=by
 have hp:=within_any (w:=w) (c:=o.2.2) (d:=s.2.2) ho1 hs1 ho hsr
 unfold cellS at hs ⊢
 have Hb:=Lib.hid hb
 have HS:Hid (∀ V,Chg Nob w V→V.cell? ⟨ib,0,none⟩=some (.int .i64 (i:Int))∧V.cell? ⟨sb,0,none⟩=some (.slice s.2.1 s.1.length s.2.2)):=(show ∀ V,Chg Nob w V→_∧_ from fun V hV=>⟨hV.cell' hi (fun e=>e),hV.cell' hs (fun e=>e)⟩)
 obtain ⟨wi,hwi⟩:∃ wi,wi=withinI o.1 s.1:=⟨_,rfl⟩
 rw [← hwi] at hp
 have Hwi:=Lib.hid hwi
 clear hb ho hsr hwi
 go_enter Tryz.func118,Tryz.ntmps118
 by_cases hki:k=i
 ·have h1:((k:Int) != (i:Int))=false:=by rw [bne,beq_iff_eq.2 (by rw [hki]:(k:Int)=(i:Int))];rfl
  have hr:Hid (bb=false):=(show bb=false by rw [Hb.out,beq_iff_eq.2 hki];rfl)
  have hkI:(k:Int)=(i:Int):=by omega
  go_wp2_with fail
  go_ret
  exact ⟨by rw [hr.out];rfl,Chg.refl _ _⟩
 ·have h1:((k:Int) != (i:Int))=true:=by rw [bne,beq_eq_false_iff_ne.2 (by omega:¬ (k:Int)=(i:Int))];rfl
  have hr:Hid (bb=(wi&&(decide (o.1.length < s.1.length) || decide (k < i)))):=(show bb=_ by rw [Hb.out,beq_eq_false_iff_ne.2 hki,← Hwi.out];rfl)
  go_wp2_with fail
  (with_reducible refine hp.mono ?_)
  clear hp hi hs
  rintro e w5 ⟨rfl,hc5⟩
  obtain ⟨hi,hs⟩:=HS.out w5 hc5
  cases wi with
  | false =>
    have hr2:Hid (bb=false):=(show bb=false by rw [hr.out];rfl)
    go_wp2_with fail
    go_ret
    exact ⟨by rw [hr2.out];rfl,hc5⟩
  | true =>
    by_cases hl:o.1.length < s.1.length
    ·have hli:(o.1.length:Int) < (s.1.length:Int):=by omega
     have hr2:Hid (bb=true):=(show bb=true by rw [hr.out,decide_eq_true hl];rfl)
     go_wp2_with fail
     go_ret
     exact ⟨by rw [hr2.out];rfl,hc5⟩
    ·have hli:¬ (o.1.length:Int) < (s.1.length:Int):=by omega
     have hlid:decide ((o.1.length:Int) < (s.1.length:Int))=false:=decide_eq_false hli
     have hlin:decide (o.1.length < s.1.length)=false:=decide_eq_false hl
     have hr2:Hid (bb=decide ((k:Int) < (i:Int))):=(show bb=_ by
      rw [hr.out,hlin,Bool.true_and,Bool.false_or]
      exact decide_eq_decide.2 (by omega))
     go_wp2_with fail
     go_ret
     exact ⟨by rw [hr2.out];first | rfl | simp,hc5⟩
section
variable {w : World} {ao : Option Addr} {ls : List (List Int)} {xs : List StS} {c : Nat}
def FewPost (ls:List (List Int)) (w:World) (e:Ending) (w':World):Prop:=Chg Nob w w'∧∃ sl xs',e = .returned sl∧SOwn w' w.heap.size sl (fewestI ls ls.length) xs'
theorem fewest_any (hfst:xs.map (·.1)=ls) (h4:ls.length≤10000) (h:SIn w ao xs):Calls Tryz.prog 63 #[.slice ao ls.length c] w (FewPost ls w):=by
 have hxl:xs.length=ls.length:=by rw [← hfst,List.length_map]
 have hget:∀ (j:Nat) (x:StS),xs[j]? = some x→ls.getD j []=x.1:=fun j x hj=>by
  rw [List.getD_eq_getElem?_getD,← hfst,List.getElem?_map,hj];rfl
 have H:=Lib.hid h
 have Hget:=Lib.hid hget
 have Hxl:=Lib.hid hxl
 clear h hget hfst hxl
 go_enter Tryz.func63,Tryz.ntmps63
 go_wp2_with fail
 go_loopw [3,12] (fun ov iv wr=>∃ (i:Nat) (xs':List StS),iv = .int .i64 (i:Int)∧i≤ls.length∧Hid (SOwn wr w.heap.size ov (fewestI ls i) xs')∧Hid (Chg Nob w wr)) (fun _ iv _=>ls.length - (intOf iv).toNat)
 case atStart=>exact ⟨0,[],rfl,Nat.zero_le _,(show SOwn w w.heap.size _ (fewestI ls 0) [] from ⟨World.ownsRow_nil _ _ _ _,rfl,fun x hx=>by simp at hx⟩),Chg.refl _ _⟩
 case round =>
  obtain ⟨i,xs',rfl,hi,HO,Hc⟩:=hrel
  by_cases hlt:i < ls.length
  ·obtain ⟨x,hx⟩:∃ x,xs[i]? = some x:=⟨_,List.getElem?_eq_getElem (by have:=Hxl.out;omega)⟩
   obtain ⟨b,o,rfl,x0,hxl,hxt,hxn⟩:=(H.out.nob Hc.out) i x hx
   have Hx:=Lib.hid (Hget.out i x hx)
   have hii:(i:Int) < (ls.length:Int):=by omega
   have hi0:(0:Int)≤(i:Int):=by omega
   obtain ⟨Q1,hQ1,hcQ1,hbQ1,hsQ1⟩:=box_cells wr #[.int .i64 (i:Int)] 3
   obtain ⟨Q,hQ,hcQ,hbQ,hsQ⟩:=box_cells Q1 #[cellS x] 73
   have HcQ:=Lib.hid (hcQ1.trans1 hcQ)
   have HQ:=Lib.hid (Hc.out.trans1 HcQ.out)
   have HOQ:=Lib.hid (HO.out.nob HcQ.out)
   have HbQ:Hid (∀ V,Chg Nob Q V→V.cell? ⟨wr.heap.size,0,none⟩=some (.int .i64 (i:Int))∧V.cell? ⟨wr.heap.size+1,0,none⟩=some (cellS x)):=(show ∀ V,Chg Nob Q V→_∧_ from fun V hV=>by
    have q0:=cell_row (hcQ.at hbQ1 (fun e=>e)) 0 (v:= .int .i64 (i:Int)) rfl
    have q1:=cell_row hbQ 0 (v:=cellS x) rfl
    rw [hsQ1] at q1
    exact ⟨hV.cell' q0 (fun e=>e),hV.cell' q1 (fun e=>e)⟩)
   have Hxt:Hid (x.1.length≤2000000∧TRow Q 0 x.2.1 x.1∧(x.2.1=none→x.2.2=0)):=Lib.hid ⟨hxl,hxt.nob HcQ.out,hxn⟩
   rw [hQ1] at hQ
   unfold cellS at x0 hQ
   clear hx hxl hxt hxn hbQ1 hbQ hcQ1 hcQ hsQ1 hsQ hQ1
   go_upto_region 5 with fail
   rw [← hQ]
   clear hQ x0
   go_wp2_with fail
   go_loopw [7,20] (fun bv kv W=>∃ (k:Nat) (kb:Bool),kv = .int .i64 (k:Int)∧bv = .bool kb∧k≤ls.length∧Hid (kb=keepS ls i k)∧Hid (Chg Nob Q W)) (fun _ kv _=>ls.length - (intOf kv).toNat)
   case atStart=>exact ⟨0,true,rfl,rfl,Nat.zero_le _,(show true=keepS ls i 0 by rfl),Chg.refl _ _⟩
   case round =>
    obtain ⟨k,kb,rfl,rfl,hk,Hkb,Hc2⟩:=hrel
    by_cases hkl:k < ls.length
    ·obtain ⟨y,hy⟩:∃ y,xs[k]? = some y:=⟨_,List.getElem?_eq_getElem (by have:=Hxl.out;omega)⟩
     obtain ⟨b',o',hbo,y0,hyl,hyt,_⟩:=(H.out.nob (HQ.out.trans1 Hc2.out)) k y hy
     cases hbo
     have Hy:=Lib.hid (Hget.out k y hy)
     have hki:(k:Int) < (ls.length:Int):=by omega
     have hk0:(0:Int)≤(k:Int):=by omega
     obtain ⟨lb,hlb⟩:∃ lb,lb=lessI ls i k:=⟨_,rfl⟩
     obtain ⟨q0,q1⟩:=HbQ.out wr Hc2.out
     have hp:=less_fn (w:=wr) (i:=i) (k:=k) (o:=y) (s:=x) (bb:=lb) q0 q1 hyl Hxt.out.1 hyt.1 (Hxt.out.2.1.nob Hc2.out).1 (by rw [hlb];unfold lessI;rw [Hy.out,Hx.out])
     have Hstep:Hid ((kb&&!lb)=keepS ls i (k+1)):=(show _=_ by rw [keepS_succ,← Hkb.out,hlb])
     unfold cellS at y0 hp
     clear hy hyl hyt hlb q0 q1
     cases kb with
     | false =>
       have H2:Hid (false=keepS ls i (k+1)):=(show false=_ by rw [← Hstep.out];rfl)
       go_wp2_with fail
       go_roundw
       case rel=>exact ⟨k+1,false,by go_num,rfl,by omega,H2,Hc2⟩
       case measure=>simp [intOf];omega
     | true =>
       have H2:Hid ((!lb)=keepS ls i (k+1)):=(show _=_ by rw [← Hstep.out];rfl)
       go_wp2_with fail
       (with_reducible refine hp.mono ?_)
       clear hp y0
       rintro e w5 ⟨rfl,hc5⟩
       have H5:Hid (Chg Nob Q w5):=Lib.hid (Hc2.out.trans1 hc5)
       clear hc5
       go_wp2_with fail
       go_roundw
       case rel=>exact ⟨k+1,!lb,by go_num,rfl,by omega,H2,H5⟩
       case measure=>simp [intOf];omega
    ·have hke:k=ls.length:=by omega
     have hki:¬ (k:Int) < (ls.length:Int):=by omega
     have hkid:decide ((k:Int) < (ls.length:Int))=false:=decide_eq_false hki
     have hkin:decide (k < ls.length)=false:=decide_eq_false hkl
     have HOW:=Lib.hid (HOQ.out.nob Hc2.out)
     have HcW:=Lib.hid (HQ.out.trans1 Hc2.out)
     rw [hke] at Hkb
     clear hke
     cases kb with
     | false =>
       have H2:Hid (SOwn wr w.heap.size u3 (fewestI ls (i+1)) xs'):=(show SOwn wr w.heap.size u3 (fewestI ls (i+1)) xs' by
        rw [fewestI_succ,← Hkb.out,if_neg Bool.false_ne_true,List.append_nil]
        exact HOW.out)
       go_wp2_with fail
       go_roundw
       case rel=>exact ⟨i+1,xs',by go_num,by omega,H2,HcW⟩
       case measure=>simp [intOf];omega
     | true =>
       have hll:(fewestI ls i).length≤1000000:=by
        unfold fewestI
        rw [List.length_map]
        have:=List.length_filter_le (fun i=>keepS ls i ls.length) (List.range i)
        rw [List.length_range] at this
        omega
       obtain ⟨sl',W',hrun,hown,hcw⟩:=HOW.out.push HcW.out.size hll x ⟨Hxt.out.1,Hxt.out.2.1.nob Hc2.out,Hxt.out.2.2⟩
       have H2:Hid (SOwn W' w.heap.size sl' (fewestI ls (i+1)) (xs'++[x])):=(show SOwn W' w.heap.size sl' (fewestI ls (i+1)) (xs'++[x]) by
        rw [fewestI_succ,← Hkb.out,if_pos rfl,Hx.out]
        exact hown)
       have H3:Hid (Chg Nob w W'):=Lib.hid (HcW.out.trans hcw (fun q hq e=>by have:=(HOW.out.own.lt q e).1;omega))
       obtain ⟨q0,q1⟩:=HbQ.out wr Hc2.out
       unfold cellS at q1 hrun
       have Hrun:=Lib.hid hrun
       clear hrun hown hcw hll
       go_wp2_with (refine wpList_append_known rfl _ _ 35 35 rfl _ _ rfl rfl _ W' Hrun.out ?_)
       go_roundw
       case rel=>exact ⟨i+1,_,by go_num,by omega,H2,H3⟩
       case measure=>simp [intOf];omega
  ·obtain rfl:i=ls.length:=by omega
   go_wp2_with fail
   go_ret
   exact ⟨Hc.out,_,xs',rfl,HO.out⟩
end
end Go.Proofs.YtkgfdgfhpdhhaaaGreat
