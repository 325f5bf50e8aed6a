/- Parts of the walks and of the plain theory, the first: The reference's depth and size of a formula. Condition: the tree lies in the world; it is not too great. -/
import Derived.Test.YtkgfdgfhpdhhaaaGreatT01
import Derived.Lib.IndexBytes
import Derived.Lib.Bytealg
import Derived.Deep.AppendLies
import Derived.RegionTactic
import Derived.Deep.LoopGhost
namespace Go.Proofs.YtkgfdgfhpdhhaaaGreat
open Go.ChangeShapes Go.WideShapes Go.RowKit
set_option maxRecDepth 100000
set_option maxHeartbeats 2000000
mutual
theorem greatT_pos:∀ (t:T) (left:Int),0 < greatT t left→0 < left→greatT t left=left - sizeT t
 | .node _ _ kids,left,h,h0=>by
   rw [greatT] at h ⊢
   rw [sizeT]
   have:=greatL_pos kids (left - 1) h (by omega)
   omega
theorem greatL_pos:∀ (l:List T) (left:Int),0 < greatL l left→0≤left→greatL l left=left - sizeL l
 | [],left,_,_=>by rw [greatL,sizeL];omega
 | t::ts,left,h,h0=>by
   rw [greatL] at h ⊢
   rw [sizeL]
   split at h
   ·rename_i hl
    rw [if_pos hl]
    have hb:=greatT_le t left hl
    have h1:=greatL_pos ts (greatT t left) h hb.1
    have h2:=greatL_le ts (greatT t left) hb.1
    have h3:=greatT_pos t left (by omega) hl
    omega
   ·omega
end
mutual
def depthT:T→Nat
 | .node _ _ kids=>depthL kids+1
def depthL:List T→Nat
 | []=>0
 | t::ts=>max (depthT t) (depthL ts)
end
theorem depthT_eq (t:T):depthT t=depthL t.kids+1:=by cases t;rw [depthT];rfl
mutual
theorem depthT_size:∀ t:T,depthT t≤sizeT t
 | .node _ _ kids=>by
   rw [depthT,sizeT]
   have:=depthL_size kids
   omega
theorem depthL_size:∀ l:List T,depthL l≤sizeL l
 | []=>by rw [depthL,sizeL];omega
 | t::ts=>by
   rw [depthL,sizeL]
   have:=depthT_size t
   have:=depthL_size ts
   omega
end
theorem depthL_append:∀ (l m:List T),depthL (l++m)=max (depthL l) (depthL m)
 | [],m=>by rw [List.nil_append,depthL];omega
 | t::l,m=>by
   rw [List.cons_append,depthL,depthL,depthL_append l m]
   omega
theorem sizeL_append:∀ (l m:List T),sizeL (l++m)=sizeL l+sizeL m
 | [],m=>by rw [List.nil_append,sizeL];omega
 | t::l,m=>by
   rw [List.cons_append,sizeL,sizeL,sizeL_append l m]
   omega
theorem depth_next {l:List T} {k:Nat} {t:T} (h:l[k]? = some t):depthL (l.take (k+1))=max (depthL (l.take k)) (depthT t):=by
 rw [List.take_add_one,h]
 show depthL (l.take k++[t])=_
 rw [depthL_append,depthL,depthL]
 omega
theorem size_next {l:List T} {k:Nat} {t:T} (h:l[k]? = some t):sizeL (l.take (k+1))=sizeL (l.take k)+sizeT t:=by
 rw [List.take_add_one,h]
 show sizeL (l.take k++[t])=_
 rw [sizeL_append,sizeL,sizeL]
 omega
theorem size_part {l:List T} (k:Nat):sizeL (l.take k)≤sizeL l:=by
 have h:sizeL (l.take k++l.drop k)=_:=sizeL_append (l.take k) (l.drop k)
 rw [List.take_append_drop] at h
 omega
def DpRel (W1:World) (kids:List T) (n i:Value) (wr:World):Prop :=
 ∃ k:Nat,n = .int .i64 (depthL (kids.take k))∧i = .int .i64 k∧k≤kids.length∧Chg Nob W1 wr
theorem depth_any (R:Nat→Prop):∀ (N:Nat) (t:T),sizeT t≤N→N≤1000000→∀ (v:Value) (w:World),IsTree R w t v →
 Calls Tryz.prog 83 #[v] w fun e w'=>e = .returned (.int .i64 (depthT t))∧Chg Nob w w':=by
 intro N
 induction N with
 | zero=>intro t h;rw [sizeT_eq] at h;omega
 | succ N ih =>
   intro t hN hN9 v w ht
   obtain ⟨ao,cap,rfl,hlen,hk⟩:=ht.parts
   have Ih:=Lib.hid ih
   have Hk:=Lib.hid hk
   have hsz:sizeL t.kids≤N:=by rw [sizeT_eq] at hN;omega
   have Hd:=Lib.hid (depthT_eq t)
   have hdl:depthL t.kids≤1000000:=by have:=depthL_size t.kids;omega
   clear ih hk ht hN
   go_enter Tryz.func83,Tryz.ntmps83
   go_wp2_with fail
   have hcW:Chg Nob w (w.alloc (Obj.cells #[Value.int IntKind.i64 t.kind,Value.string ⟨t.name.toArray⟩,Value.slice ao t.kids.length cap] 24)):=(Chg.refl _ _).alloc _
   have hbox:=heap_alloc_new w (Obj.cells #[Value.int IntKind.i64 t.kind,Value.string ⟨t.name.toArray⟩,Value.slice ao t.kids.length cap] 24)
   generalize (w.alloc (Obj.cells #[Value.int IntKind.i64 t.kind,Value.string ⟨t.name.toArray⟩,Value.slice ao t.kids.length cap] 24))=W1 at *
   have Hbox:=Lib.hid hbox
   clear hbox
   go_loopw [3,4] (fun n i wr=>DpRel W1 t.kids n i wr) (fun _ i _=>t.kids.length - (intOf i).toNat)
   case atStart=>exact ⟨0,by rw [List.take_zero,depthL];rfl,rfl,Nat.zero_le _,Chg.refl _ _⟩
   case round =>
    obtain ⟨k,rfl,rfl,hkk,hc⟩:=hrel
    have hbx:=hc.at Hbox.out (fun e=>e)
    have c2:=cell_row hbx 2 (v:= .slice ao t.kids.length cap) rfl
    clear hbx
    by_cases hlt:k < t.kids.length
    ·obtain ⟨u,hu⟩:∃ u,t.kids[k]? = some u:=⟨_,List.getElem?_eq_getElem hlt⟩
     have hki:(k:Int) < (t.kids.length:Int):=by omega
     have hk0:(0:Int)≤(k:Int):=by omega
     obtain ⟨b,o,ak,capk,hao,hRb,q0,q1,q2,hl2,hk2,htree⟩:=Hk.out.kid hu
     have hcc:=hcW.trans1 hc
     have q0':=hcc.cell' q0 (fun e=>e)
     have q1':=hcc.cell' q1 (fun e=>e)
     have q2':=hcc.cell' q2 (fun e=>e)
     have hcall:=Ih.out u (by have:=sizeT_kid hu;omega) (by omega) _ wr (htree.nob hcc)
     have Hn:=Lib.hid (depth_next hu)
     clear q0 q1 q2 hk2 htree hu
     subst hao
     obtain ⟨d,hd⟩:∃ d,d=depthL (t.kids.take k):=⟨_,rfl⟩
     obtain ⟨du,hdu⟩:∃ du,du=depthT u:=⟨_,rfl⟩
     rw [← hd,← hdu] at Hn
     rw [← hdu] at hcall
     rw [← hd]
     clear hd hdu
     by_cases hgt:d < du
     ·have hgi:(d:Int) < (du:Int):=by omega
      have hnew:Hid (depthL (t.kids.take (k+1))=du):=by show _=_;rw [Hn.out];omega
      clear Hn
      go_wp2_with fail
      (with_reducible refine hcall.mono ?_)
      clear hcall
      rintro e w3 ⟨rfl,hc3⟩
      go_wp2_with fail
      go_roundw
      case rel=>exact ⟨k+1,by rw [hnew.out],by go_num,by omega,hc.trans1 hc3⟩
      case measure=>simp [intOf];omega
     ·have hgi:¬ (d:Int) < (du:Int):=by omega
      have hnew:Hid (depthL (t.kids.take (k+1))=d):=by show _=_;rw [Hn.out];omega
      clear Hn
      go_wp2_with fail
      (with_reducible refine hcall.mono ?_)
      clear hcall
      rintro e w3 ⟨rfl,hc3⟩
      go_wp2_with fail
      go_roundw
      case rel=>exact ⟨k+1,by rw [hnew.out],by go_num,by omega,hc.trans1 hc3⟩
      case measure=>simp [intOf];omega
    ·obtain rfl:k=t.kids.length:=by omega
     rw [List.take_length]
     obtain ⟨d,hd⟩:∃ d,d=depthL t.kids:=⟨_,rfl⟩
     rw [← hd] at Hd hdl ⊢
     clear hd
     go_wp2_with fail
     go_ret
     exact ⟨by rw [Hd.out];first | rfl | (simp;rfl),hcW.trans1 hc⟩
def sizeR (t:T):Nat:=if 20000 < sizeT t then 20001 else sizeT t
def SzRel (W1:World) (kids:List T) (n i:Value) (wr:World):Prop :=
 ∃ k:Nat,n = .int .i64 ((1+sizeL (kids.take k):Nat):Int)∧i = .int .i64 k∧k≤kids.length∧1+sizeL (kids.take k)≤20000∧Chg Nob W1 wr
theorem rsize_any (R:Nat→Prop):∀ (N:Nat) (t:T),sizeT t≤N→∀ (v:Value) (w:World),IsTree R w t v →
 Calls Tryz.prog 9 #[v] w fun e w'=>e = .returned (.int .i64 (sizeR t))∧Chg Nob w w':=by
 intro N
 induction N with
 | zero=>intro t h;rw [sizeT_eq] at h;omega
 | succ N ih =>
   intro t hN v w ht
   obtain ⟨ao,cap,rfl,hlen,hk⟩:=ht.parts
   have Ih:=Lib.hid ih
   have Hk:=Lib.hid hk
   have hsz:sizeL t.kids≤N:=by rw [sizeT_eq] at hN;omega
   have Hd:=Lib.hid (sizeT_eq t)
   clear ih hk ht hN
   go_enter Tryz.func9,Tryz.ntmps9
   go_wp2_with fail
   have hcW:Chg Nob w (w.alloc (Obj.cells #[Value.int IntKind.i64 t.kind,Value.string ⟨t.name.toArray⟩,Value.slice ao t.kids.length cap] 24)):=(Chg.refl _ _).alloc _
   have hbox:=heap_alloc_new w (Obj.cells #[Value.int IntKind.i64 t.kind,Value.string ⟨t.name.toArray⟩,Value.slice ao t.kids.length cap] 24)
   generalize (w.alloc (Obj.cells #[Value.int IntKind.i64 t.kind,Value.string ⟨t.name.toArray⟩,Value.slice ao t.kids.length cap] 24))=W1 at *
   have Hbox:=Lib.hid hbox
   clear hbox
   go_loopw [3,4] (fun n i wr=>SzRel W1 t.kids n i wr) (fun _ i _=>t.kids.length - (intOf i).toNat)
   case atStart=>exact ⟨0,by rw [List.take_zero,sizeL];rfl,rfl,Nat.zero_le _,by rw [List.take_zero,sizeL];omega,Chg.refl _ _⟩
   case round =>
    obtain ⟨k,rfl,rfl,hkk,hle,hc⟩:=hrel
    have hbx:=hc.at Hbox.out (fun e=>e)
    have c2:=cell_row hbx 2 (v:= .slice ao t.kids.length cap) rfl
    clear hbx
    by_cases hlt:k < t.kids.length
    ·obtain ⟨u,hu⟩:∃ u,t.kids[k]? = some u:=⟨_,List.getElem?_eq_getElem hlt⟩
     have hki:(k:Int) < (t.kids.length:Int):=by omega
     have hk0:(0:Int)≤(k:Int):=by omega
     obtain ⟨b,o,ak,capk,hao,hRb,q0,q1,q2,hl2,hk2,htree⟩:=Hk.out.kid hu
     have hcc:=hcW.trans1 hc
     have q0':=hcc.cell' q0 (fun e=>e)
     have q1':=hcc.cell' q1 (fun e=>e)
     have q2':=hcc.cell' q2 (fun e=>e)
     have hcall:=Ih.out u (by have:=sizeT_kid hu;omega) _ wr (htree.nob hcc)
     have Hn:=Lib.hid (size_next hu)
     have Hpart:=Lib.hid (size_part (l:=t.kids) (k+1))
     clear q0 q1 q2 hk2 htree hu
     subst hao
     obtain ⟨d,hd⟩:∃ d,d=1+sizeL (t.kids.take k):=⟨_,rfl⟩
     rw [← hd] at hle ⊢
     have Hdd:=Lib.hid hd
     clear hd
     by_cases hbig:20000 < sizeT u
     ·have hsu:sizeR u=20001:=if_pos hbig
      rw [hsu] at hcall
      have hres:Hid (sizeR t=20001):=by
       show _=_
       exact if_pos (by have:=Hd.out;have:=Hn.out;have:=Hpart.out;omega)
      clear hsu
      have hd1:1≤d:=by have:=Hdd.out;omega
      have hgt:(20000:Int) < (d:Int)+20001:=by omega
      go_wp2_with fail
      (with_reducible refine hcall.mono ?_)
      clear hcall
      rintro e w3 ⟨rfl,hc3⟩
      go_wp2_with fail
      go_ret
      exact ⟨by rw [hres.out];rfl,hcc.trans1 hc3⟩
     ·have hsu:sizeR u=sizeT u:=if_neg hbig
      rw [hsu] at hcall
      clear hsu
      obtain ⟨du,hdu⟩:∃ du,du=sizeT u:=⟨_,rfl⟩
      rw [← hdu] at hcall hbig Hn
      clear hdu
      by_cases hgt:20000 < d+du
      ·have hgi:(20000:Int) < (d:Int)+(du:Int):=by omega
       have hres:Hid (sizeR t=20001):=by
        show _=_
        exact if_pos (by have:=Hd.out;have:=Hn.out;have:=Hpart.out;have:=Hdd.out;omega)
       go_wp2_with fail
       (with_reducible refine hcall.mono ?_)
       clear hcall
       rintro e w3 ⟨rfl,hc3⟩
       go_wp2_with fail
       go_ret
       exact ⟨by rw [hres.out];rfl,hcc.trans1 hc3⟩
      ·have hgi:¬ (20000:Int) < (d:Int)+(du:Int):=by omega
       have hnew:Hid (1+sizeL (t.kids.take (k+1))=d+du):=by show _=_;have:=Hn.out;have:=Hdd.out;omega
       go_wp2_with fail
       (with_reducible refine hcall.mono ?_)
       clear hcall
       rintro e w3 ⟨rfl,hc3⟩
       go_wp2_with fail
       go_roundw
       case rel=>exact ⟨k+1,by rw [hnew.out];rfl,by go_num,by omega,by rw [hnew.out];omega,hc.trans1 hc3⟩
       case measure=>simp [intOf];omega
    ·obtain rfl:k=t.kids.length:=by omega
     rw [List.take_length] at hle ⊢
     have hres:Hid (sizeR t=1+sizeL t.kids):=by
      show _=_
      rw [sizeR,if_neg (by have:=Hd.out;omega),Hd.out]
     go_wp2_with fail
     go_ret
     exact ⟨by rw [hres.out];rfl,hcW.trans1 hc⟩
set_option maxRecDepth 512
def okNode (k:Int) (nm:List UInt8) (n:Nat):Bool:=decide (kidsOf k=n)&&(if k=3 then nameB nm else decide (nm=[]))
mutual
def mayT:T→Bool
 | .node k nm kids=>okNode k nm kids.length&&mayL kids
def mayL:List T→Bool
 | []=>true
 | t::ts=>mayT t&&mayL ts
end
theorem mayT_eq (t:T):mayT t=(okNode t.kind t.name t.kids.length&&mayL t.kids):=by cases t;rw [mayT];rfl
theorem mayL_not:∀ {l:List T} {j:Nat} {u:T},l[j]? = some u→mayT u=false→mayL l=false
 | [],_,_,h,_=>by simp at h
 | t::ts,0,u,h,hm=>by
   obtain rfl:t=u:=by simpa using h
   rw [mayL,hm];rfl
 | t::ts,j+1,u,h,hm=>by
   rw [mayL,mayL_not (l:=ts) (j:=j) (u:=u) (by simpa using h) hm]
   simp
def checkN (t:T):Int:=if mayT t=false then 92 else if 100 < depthT t then 93 else 0
end Go.Proofs.YtkgfdgfhpdhhaaaGreat
namespace Go.Proofs.YtkgfdgfhpdhhaaaGreat
theorem sizeT_pos (t:T):1≤sizeT t:=by cases t;rw [sizeT];omega
def rankK (k:Int):Int:=if 4≤k∧k≤7 then 5 else if 12≤k∧k≤14 then 4 else if k=8 then 3 else if k=9 then 2 else if k=10 then 1 else if k=11 then 0 else 6
def preText (k:Int):List UInt8:=if k=4 then [33] else if k=5 then [88,32] else if k=6 then [91,93,32] else [60,62,32]
def opText (k:Int):List UInt8:=if k=12 then [85] else if k=13 then [86] else if k=14 then [87] else if k=8 then [38,38] else if k=9 then [124,124] else if k=10 then [45,62] else [60,45,62]
def leftK (k:Int):Int:=if 12≤k∧k≤14 then 5 else if k=8 then 3 else if k=9 then 2 else if k=10 then 2 else 1
def rightK (k:Int):Int:=if 12≤k∧k≤14 then 4 else if k=8 then 4 else if k=9 then 3 else if k=10 then 1 else 0
def within (k:Int) (least:Int) (x:List UInt8):List UInt8:=if rankK k < least then [40]++x++[41] else x
mutual
/-- A formula's text. -/
def textT:T→List UInt8
 | .node k nm kids=>if k=1 then [116,114,117,101] else if k=2 then [102,97,108,115,101] else if k=3 then nm else textL k kids
def textL (k:Int):List T→List UInt8
 | [.node ka na la]=>preText k++within ka 5 (textT (.node ka na la))
 | [.node ka na la,.node kb nb lb]=>within ka (leftK k) (textT (.node ka na la))++([32]++opText k++[32])++within kb (rightK k) (textT (.node kb nb lb))
 | _=>[]
end
theorem may_shape {t:T} (h:mayT t=true):((t.kind=1∨t.kind=2)∧t.name=[]∧t.kids=[])∨(t.kind=3∧nameB t.name=true∧t.kids=[])∨((4≤t.kind∧t.kind≤7)∧t.name=[]∧∃ a,t.kids=[a]∧mayT a=true) ∨
 ((8≤t.kind∧t.kind≤14)∧t.name=[]∧∃ a b,t.kids=[a,b]∧mayT a=true∧mayT b=true):=by
 cases t with
 | node k nm kids =>
   rw [mayT,Bool.and_eq_true] at h
   obtain ⟨h1,h2⟩:=h
   unfold okNode at h1
   rw [Bool.and_eq_true] at h1
   obtain ⟨h1,h3⟩:=h1
   have h1:=of_decide_eq_true h1
   show ((k=1∨k=2)∧nm=[]∧kids=[])∨(k=3∧nameB nm=true∧kids=[])∨((4≤k∧k≤7)∧nm=[]∧∃ a,kids=[a]∧mayT a=true)∨((8≤k∧k≤14)∧nm=[]∧∃ a b,kids=[a,b]∧mayT a=true∧mayT b=true)
   match kids,h1,h2 with
   | [],h1,h2 =>
     have hk:1≤k∧k≤3:=by
      unfold kidsOf at h1
      repeat' split at h1
      all_goals first | assumption | (simp at h1)
     by_cases h3k:k=3
     ·rw [if_pos h3k] at h3
      exact .inr (.inl ⟨h3k,h3,rfl⟩)
     ·rw [if_neg h3k] at h3
      exact .inl ⟨by omega,of_decide_eq_true h3,rfl⟩
   | [a],h1,h2 =>
     have hk:4≤k∧k≤7:=by
      unfold kidsOf at h1
      repeat' split at h1
      all_goals first | assumption | (simp at h1)
     rw [if_neg (by omega)] at h3
     rw [mayL,mayL,Bool.and_true] at h2
     exact .inr (.inr (.inl ⟨hk,of_decide_eq_true h3,a,rfl,h2⟩))
   | [a,b],h1,h2 =>
     have hk:8≤k∧k≤14:=by
      unfold kidsOf at h1
      repeat' split at h1
      all_goals first | assumption | (simp at h1)
     rw [if_neg (by omega)] at h3
     rw [mayL,mayL,mayL,Bool.and_true,Bool.and_eq_true] at h2
     exact .inr (.inr (.inr ⟨hk,of_decide_eq_true h3,a,b,rfl,h2.1,h2.2⟩))
   | _::_::_::_,h1,_ =>
     unfold kidsOf at h1
     simp only [List.length_cons] at h1
     repeat' split at h1
     all_goals omega
theorem kid_induct {P:T→Prop} (h:∀ t,(∀ u∈t.kids,P u)→P t):∀ t,P t:=by
 have key:∀ (N:Nat) (t:T),sizeT t≤N→P t:=by
  intro N
  induction N with
  | zero=>intro t ht;have:=sizeT_pos t;omega
  | succ N ih =>
    intro t ht
    refine h t (fun u hu=>ih u ?_)
    cases t with
    | node k nm kids =>
      rw [sizeT] at ht
      have:∀ (l:List T),u∈l→sizeT u≤sizeL l:=by
       intro l
       induction l with
       | nil=>intro h;cases h
       | cons x l ihl =>
         intro h
         rw [sizeL]
         rcases List.mem_cons.1 h with rfl | h
         ·omega
         ·have:=ihl h;omega
      have:=this kids hu
      omega
 exact fun t=>key _ t (Nat.le_refl _)
def flipK (k:Int) (no:Bool):Int:=if no=false then k else if k=1 then 2 else if k=2 then 1 else if k=8 then 9 else if k=9 then 8 else if k=12 then 13 else 12
mutual
/-- A formula's normal form; no: its opposite's. -/
def nfT:T→Bool→T
 | .node k nm kids,no=>if k=1∨k=2 then .node (flipK k no) [] [] else if k=3 then (if no then .node 4 [] [.node 3 nm []] else .node 3 nm []) else nfL k kids no
def nfL (k:Int):List T→Bool→T
 | [a],no =>
   if k=4 then nfT a (!no) else if k=5 then .node 5 [] [nfT a no] else if k=6 then .node (flipK 13 no) [] [.node (flipK 2 no) [] [],nfT a no]
   else .node (flipK 12 no) [] [.node (flipK 1 no) [] [],nfT a no]
 | [a,b],no =>
   if k=10 then .node (flipK 9 no) [] [nfT a (!no),nfT b no]
   else if k=11 then .node 9 [] [.node 8 [] [nfT a false,nfT b no],.node 8 [] [nfT a true,nfT b (!no)]]
   else if k=14 then .node (flipK 13 no) [] [nfT b no,.node (flipK 9 no) [] [nfT a no,nfT b no]]
   else .node (flipK k no) [] [nfT a no,nfT b no]
 | _,_=> .node k [] []
end
theorem nfT_eq (t:T) (no:Bool):nfT t no=if t.kind=1∨t.kind=2 then .node (flipK t.kind no) [] [] else if t.kind=3 then (if no then .node 4 [] [.node 3 t.name []] else .node 3 t.name []) else nfL t.kind t.kids no:=by
 cases t
 rw [nfT];rfl
def wk (k:Int) (least:Int) (ws:List (List UInt8)):List (List UInt8):=if rankK k < least then [[40]]++ws++[[41]] else ws
def preW (k:Int):List UInt8:=if k=4 then [33] else if k=5 then [88] else if k=6 then [91,93] else [60,62]
mutual
/-- The words of a formula's text. -/
def tk:T→List (List UInt8)
 | .node k nm kids=>if k=1 then [[116,114,117,101]] else if k=2 then [[102,97,108,115,101]] else if k=3 then [nm] else tkL k kids
def tkL (k:Int):List T→List (List UInt8)
 | [.node ka na la]=>[preW k]++wk ka 5 (tk (.node ka na la))
 | [.node ka na la,.node kb nb lb]=>wk ka (leftK k) (tk (.node ka na la))++[opText k]++wk kb (rightK k) (tk (.node kb nb lb))
 | _=>[]
end
end Go.Proofs.YtkgfdgfhpdhhaaaGreat
namespace Go.Proofs.YtkgfdgfhpdhhaaaGreat
open Go.ChangeShapes Go.WideShapes Go.RowKit
theorem grown_chg {B:Nat} {a w w':World} {e:TypeId} {z:Nat} {v:Value} {n:Nat} {xs:List Value} (h:Chg Nob a w) (hrow:w.ownsRow B e z v n xs) (hB:a.heap.size≤B) (hg:w.grownBy w' v.ownBlock):Chg Nob a w':=by
 have h1:Chg (fun k=>a.heap.size≤k) a w':=Chg.grown (h.any) hg (fun k hk _=>by have:=(hrow.lt k hk).1;omega)
 exact h1.mono (fun i hi e=>by omega)
set_option maxRecDepth 100000
set_option maxHeartbeats 1000000
def Ge (lo:Nat):Nat→Prop:=fun b=>lo≤b
mutual
/-- A formula that a call has made: its kids in rows of their own. -/
def Fresh (R:Nat→Prop) (W:World):T→Value→Prop
 | .node k nm kids,v=>(kids=[]∧v = .agg #[.int .i64 k,.string ⟨nm.toArray⟩,.slice none 0 0]) ∨
   ∃ b cs,R b∧v = .agg #[.int .i64 k,.string ⟨nm.toArray⟩,.slice (some ⟨b,0,none⟩) kids.length kids.length]∧W.heap[b]? = some (.cells cs 24 (0,0))∧kids.length≤2∧FreshL R W kids cs.toList
def FreshL (R:Nat→Prop) (W:World):List T→List Value→Prop
 | [],[]=>True
 | t::ts,c0::c1::c2::cs=>Fresh R W t (.agg #[c0,c1,c2])∧FreshL R W ts cs
 | _,_=>False
end
mutual
theorem Fresh.chg {R R':Nat→Prop} {S:Nat→Prop} {W W':World} (hc:Chg S W W') (hs:∀ b,R b→b < W.heap.size→¬ S b) (hl:∀ b,R b→R' b):∀ (t:T) (v:Value),Fresh R W t v→Fresh R' W' t v
 | .node k nm kids,v,h=>by
   rw [Fresh] at h ⊢
   rcases h with h | ⟨b,cs,hb,hv,ho,h2,hk⟩
   ·exact .inl h
   ·exact .inr ⟨b,cs,hl b hb,hv,hc.at ho (hs b hb (Array.getElem?_eq_some_iff.1 ho).1),h2,FreshL.chg hc hs hl kids cs.toList hk⟩
theorem FreshL.chg {R R':Nat→Prop} {S:Nat→Prop} {W W':World} (hc:Chg S W W') (hs:∀ b,R b→b < W.heap.size→¬ S b) (hl:∀ b,R b→R' b):∀ (l:List T) (cs:List Value),FreshL R W l cs→FreshL R' W' l cs
 | [],[],_=>by rw [FreshL];trivial
 | t::ts,c0::c1::c2::cs,h=>by
   rw [FreshL] at h ⊢
   exact ⟨Fresh.chg hc hs hl t _ h.1,FreshL.chg hc hs hl ts cs h.2⟩
 | [],_::_,h=>by rw [FreshL] at h;exact h.elim;all_goals simp
 | _::_,[],h=>by rw [FreshL] at h;exact h.elim;all_goals simp
 | _::_,[_],h=>by rw [FreshL] at h;exact h.elim;all_goals simp
 | _::_,[_,_],h=>by rw [FreshL] at h;exact h.elim;all_goals simp
end
theorem Fresh.agg {R:Nat→Prop} {W:World} {t:T} {v:Value} (h:Fresh R W t v):∃ ao cap,v = .agg #[.int .i64 t.kind,.string ⟨t.name.toArray⟩,.slice ao t.kids.length cap]:=by
 cases t with
 | node k nm kids =>
   rw [Fresh] at h
   rcases h with ⟨rfl,rfl⟩ | ⟨b,cs,_,rfl,_⟩
   ·exact ⟨none,0,rfl⟩
   ·exact ⟨some ⟨b,0,none⟩,kids.length,rfl⟩
theorem FreshL.at {R:Nat→Prop} {W:World}:∀ {l:List T} {cs:List Value},FreshL R W l cs→∀ {j:Nat} {t:T},l[j]? = some t→∃ c0 c1 c2,cs[j * 3]? = some c0∧cs[j * 3+1]? = some c1∧cs[j * 3+2]? = some c2∧Fresh R W t (.agg #[c0,c1,c2])
 | [],_,_,_,_,h=>by simp at h
 | u::ts,c0::c1::c2::cs,h,0,t,ht=>by
   rw [FreshL] at h
   obtain rfl:u=t:=by simpa using ht
   exact ⟨c0,c1,c2,rfl,rfl,rfl,h.1⟩
 | u::ts,c0::c1::c2::cs,h,j+1,t,ht=>by
   rw [FreshL] at h
   obtain ⟨d0,d1,d2,e0,e1,e2,hf⟩:=FreshL.at h.2 (j:=j) (t:=t) (by simpa using ht)
   exact ⟨d0,d1,d2,by rw [show (j+1) * 3=j * 3+1+1+1 by omega];simpa using e0,by rw [show (j+1) * 3+1=j * 3+1+1+1+1 by omega];simpa using e1,by rw [show (j+1) * 3+2=j * 3+2+1+1+1 by omega];simpa using e2,hf⟩
 | _::_,[],h,_,_,_=>by rw [FreshL] at h;exact h.elim;all_goals simp
 | _::_,[_],h,_,_,_=>by rw [FreshL] at h;exact h.elim;all_goals simp
 | _::_,[_,_],h,_,_,_=>by rw [FreshL] at h;exact h.elim;all_goals simp
theorem Fresh.tree {R:Nat→Prop} {W:World}:∀ (t:T) (v:Value),Fresh R W t v→IsTree (fun b=>R b∧b < W.heap.size) W t v:=by
 refine kid_induct ?_
 intro t ih v h
 cases t with
 | node k nm kids =>
   rw [Fresh] at h
   rw [IsTree]
   rcases h with ⟨rfl,rfl⟩ | ⟨b,cs,hb,rfl,ho,h2,hk⟩
   ·exact ⟨none,0,rfl,by simp,by rw [IsKids];trivial⟩
   ·refine ⟨some ⟨b,0,none⟩,kids.length,rfl,by omega,IsKids.mk kids 0 (fun j t ht=>?_)⟩
    obtain ⟨c0,c1,c2,e0,e1,e2,hf⟩:=FreshL.at hk ht
    obtain ⟨ak,capk,e⟩:=hf.agg
    simp at e
    obtain ⟨rfl,rfl,rfl⟩:=e
    rw [Nat.zero_add]
    rw [Array.getElem?_toList] at e0 e1 e2
    exact ⟨b,0,t.kind,_,_,rfl,⟨hb,(Array.getElem?_eq_some_iff.1 ho).1⟩,by rw [Nat.zero_add];exact cell_row ho _ e0,by rw [Nat.zero_add];exact cell_row ho _ e1,by rw [Nat.zero_add];exact cell_row ho _ e2,ih t (List.mem_of_getElem? ht) _ hf⟩
theorem two_any (k:Int) (a0 a1 a2 b0 b1 b2:Value) (w:World):Calls Tryz.prog 125 #[.int .i64 k,.agg #[a0,a1,a2],.agg #[b0,b1,b2]] w fun e w' =>
 e = .returned (.agg #[.int .i64 k,.string ⟨#[]⟩,.slice (some ⟨w.heap.size+3,0,none⟩) 2 2])∧Chg Nob w w'∧w'.heap[w.heap.size+3]? = some (.cells #[a0,a1,a2,b0,b1,b2] 24 (0,0)):=by
 go_enter Tryz.func125,Tryz.ntmps125
 go_wp2
 refine bodyPost_ret (v:= .agg #[.int .i64 k,.string ⟨#[]⟩,.slice (some ⟨w.heap.size+3,0,none⟩) 2 2]) (by simp [results,Tryz.results125,go_sem]) rfl ⟨rfl,((((Chg.refl _ _).alloc _).alloc _).alloc _).alloc _,?_⟩
 have:=heap_alloc_new (((w.alloc (Obj.cells #[a0,a1,a2] 24)).alloc (Obj.cells #[b0,b1,b2] 24)).alloc (Obj.cells #[Value.int IntKind.i64 k,Value.string { data:=#[] },Value.slice (some { block:=w.heap.size+1+1+1,off:=0 }) 2 2] 24)) (Obj.cells #[a0,a1,a2,b0,b1,b2] 24)
 simpa only [World.size_alloc,Nat.add_assoc,Nat.reduceAdd] using this
theorem one_any (k:Int) (a0 a1 a2:Value) (w:World):Calls Tryz.prog 140 #[.int .i64 k,.agg #[a0,a1,a2]] w fun e w' =>
 e = .returned (.agg #[.int .i64 k,.string ⟨#[]⟩,.slice (some ⟨w.heap.size+2,0,none⟩) 1 1])∧Chg Nob w w'∧w'.heap[w.heap.size+2]? = some (.cells #[a0,a1,a2] 24 (0,0)):=by
 go_enter Tryz.func140,Tryz.ntmps140
 go_wp2
 refine bodyPost_ret (v:= .agg #[.int .i64 k,.string ⟨#[]⟩,.slice (some ⟨w.heap.size+2,0,none⟩) 1 1]) (by simp [results,Tryz.results140,go_sem]) rfl ⟨rfl,(((Chg.refl _ _).alloc _).alloc _).alloc _,?_⟩
 have:=heap_alloc_new ((w.alloc (Obj.cells #[a0,a1,a2] 24)).alloc (Obj.cells #[Value.int IntKind.i64 k,Value.string { data:=#[] },Value.slice (some { block:=w.heap.size+1+1,off:=0 }) 1 1] 24)) (Obj.cells #[a0,a1,a2] 24)
 simpa only [World.size_alloc,Nat.add_assoc,Nat.reduceAdd] using this
set_option maxRecDepth 512
theorem cells_three {w:World} {b:Nat} {x y z:Value} {t:TypeId} (h:w.heap[b]? = some (.cells #[x,y,z] t (0,0))):w.cell? ⟨b,0,none⟩=some x∧w.cell? ⟨b,1,none⟩=some y∧w.cell? ⟨b,2,none⟩=some z∧w.frozen? ⟨b,0,none⟩=false∧w.frozen? ⟨b,1,none⟩=false∧w.frozen? ⟨b,2,none⟩=false:=by
 simp [World.cell?,World.frozen?,h]
theorem block_three_all {w:World} {b:Nat} {x y z:Value} {t:TypeId} (h:w.heap[b]? = some (.cells #[x,y,z] t (0,0))) (u0 u1 u2:Value) :
 (((w.setCell ⟨b,0,none⟩ u0).setCell ⟨b,1,none⟩ u1).setCell ⟨b,2,none⟩ u2).heap[b]? = some (.cells #[u0,u1,u2] t (0,0)):=by
 simp [World.setCell,Array.getElem?_modify,h]
theorem chg_three (w:World) (b:Nat) (u0 u1 u2:Value):Chg (At1 b) w (((w.setCell ⟨b,0,none⟩ u0).setCell ⟨b,1,none⟩ u1).setCell ⟨b,2,none⟩ u2) :=
 (((Chg.refl (At1 b) w).setCell (p:=⟨b,0,none⟩) (fun _=>rfl) _).setCell (p:=⟨b,1,none⟩) (fun _=>rfl) _).setCell (p:=⟨b,2,none⟩) (fun _=>rfl) _
section
variable {rb g n : Nat} {L : List Tok} {t u : T} {x : Tok} {L2 L3 : List Tok} {o' cap' o5 cap5 D : Nat} {a0 a1 a2 b0 b1 b2 : Value} {w W1 w2 W3 W4 w4 w5 w6 w7 : World} {k : Int}
end
section
variable {rb g n : Nat} {L : List Tok} {t u : T} {x : Tok} {L2 L3 M : List Tok} {o' cap' o5 cap5 D : Nat} {a0 a1 a2 b0 b1 b2 : Value} {w W1 w2 W3 W4 wr w4 w5 w6 : World} {k : Int}
end
set_option maxRecDepth 100000
set_option maxHeartbeats 4000000
def much:List PanicEntry:=[{ v:= .iface 132 (.agg #[]),recovered:=false }]
structure Nb (w:World) (nb L:Nat):Prop where
 blk:w.heap[nb]? = some (.cells #[.int .i64 (L:Int)] 136 (0,0))
 le:L≤20000
theorem Nb.nob {w w':World} {nb L:Nat} (h:Nb w nb L) (hc:Chg Nob w w'):Nb w' nb L:=⟨hc.at h.blk (fun e=>e),h.le⟩
theorem Nb.lt {w:World} {nb L:Nat} (h:Nb w nb L):nb < w.heap.size:=(Array.getElem?_eq_some_iff.1 h.blk).1
theorem Nb.at1 {w w':World} {nb L b:Nat} (h:Nb w nb L) (hc:Chg (At1 b) w w') (hb:nb≠b):Nb w' nb L:=⟨hc.at h.blk hb,h.le⟩
theorem ret_int' {a b:Int} (h:a=b):Ending.returned (Value.int .i64 a)=Ending.returned (Value.int .i64 b):=by rw [h]
theorem flip_any (k:Int) (no:Bool) (w:World):Calls Tryz.prog 131 #[.int .i64 k,.bool no] w (Rets (.int .i64 (flipK k no)) w):=by
 cases no
 ·go_enter Tryz.func131,Tryz.ntmps131
  go_wp2
  all_goals go_ret
  all_goals exact ⟨rfl,rfl⟩
 ·go_enter Tryz.func131,Tryz.ntmps131
  go_wp2
  all_goals go_ret
  all_goals (refine ⟨ret_int' ?_,rfl⟩;unfold flipK;rw [if_neg (by decide)];simp_all)
def NpPost (nb L:Nat) (v:Value) (w:World) (e:Ending) (w':World):Prop:=Chg (At1 nb) w w'∧((∃ m,L=m+1∧e = .returned v∧Nb w' nb m)∨(L=0∧e = .panicked much))
theorem npart_any (w:World) (nb L:Nat) (k:Int) (ao:Option Addr) (n c:Nat) (h:Nb w nb L):Calls Tryz.prog 130 #[.pointer (some ⟨nb,0,none⟩),.int .i64 k,.slice ao n c] w (NpPost nb L (.agg #[.int .i64 k,.string ⟨#[]⟩,.slice ao n c]) w):=by
 have hlt:=h.lt
 have hle:=h.le
 have hA:=((Chg.refl Nob w).alloc (.cells #[.int .i64 0,.string ⟨#[]⟩,.slice none 0 0] 24)).at h.blk (fun e=>e)
 have hnew:=heap_alloc_new w (.cells #[.int .i64 0,.string ⟨#[]⟩,.slice none 0 0] 24)
 have hcA:Chg Nob w (w.alloc (.cells #[.int .i64 0,.string ⟨#[]⟩,.slice none 0 0] 24)):=(Chg.refl _ _).alloc _
 have c0:=cell_row hA 0 (v:= .int .i64 (L:Int)) rfl
 have f0:(w.alloc (.cells #[.int .i64 0,.string ⟨#[]⟩,.slice none 0 0] 24)).frozen? ⟨nb,0,none⟩=false:=by simp [World.frozen?,hA]
 have HA:=Lib.hid hA
 have HB:=Lib.hid h.blk
 have Hnew:=Lib.hid hnew
 clear hA hnew h
 have hset:∀ z:Int,((w.setCell ⟨nb,0,none⟩ (.int .i64 z)).alloc (.cells #[.int .i64 0,.string ⟨#[]⟩,.slice none 0 0] 24)).heap[nb]? = some (.cells #[.int .i64 z] 136 (0,0)):=fun z =>
  ((Chg.refl Nob _).alloc _).at (block_one_set HB.out) (fun e=>e)
 have hcs:∀ (z:Int) (o:Obj),Chg (At1 nb) w ((w.setCell ⟨nb,0,none⟩ (.int .i64 z)).alloc o):=fun z o=>((Chg.refl (At1 nb) w).setCell (p:=⟨nb,0,none⟩) (fun _=>rfl) _).alloc _
 have Hset:=Lib.hid hset
 have Hcs:=Lib.hid hcs
 clear hset hcs
 cases L with
 | zero =>
   have c1:=cell_row (Hset.out (-1)) 0 (v:= .int .i64 (-1)) rfl
   go_enter Tryz.func130,Tryz.ntmps130
   go_wp2
   exact ⟨rfl,Hcs.out _ _,.inr ⟨rfl,rfl⟩⟩
 | succ m =>
   have c1:=cell_row (Hset.out (m:Int)) 0 (v:= .int .i64 (m:Int)) rfl
   have hm0:¬ (m:Int) < 0:=by omega
   go_enter Tryz.func130,Tryz.ntmps130
   go_wp2
   obtain ⟨e0,e1,e2,_⟩:=cells_three (heap_alloc_new (w.setCell ⟨nb,0,none⟩ (.int .i64 (m:Int))) (.cells #[.int .i64 k,.string ⟨#[]⟩,.slice ao n c] 24))
   have hsz:(w.setCell ⟨nb,0,none⟩ (.int .i64 (m:Int))).heap.size=w.heap.size:=by simp [World.setCell]
   rw [hsz] at e0 e1 e2
   refine bodyPost_ret (v:= .agg #[.int .i64 k,.string ⟨#[]⟩,.slice ao n c]) (by simp [results,Tryz.results130,go_sem,e0,e1,e2]) rfl ⟨Hcs.out _ _,.inl ⟨m,rfl,rfl,⟨?_,by omega⟩⟩⟩
   exact ((Chg.refl Nob _).alloc _).at (block_one_set HB.out) (fun e=>e)
def NfPost (nb L:Nat) (u:T) (w:World) (e:Ending) (w':World):Prop :=
 Chg (At1 nb) w w'∧((∃ v,sizeT u≤L∧e = .returned v∧Fresh (Ge w.heap.size) w' u v∧Nb w' nb (L - sizeT u))∨(L < sizeT u∧e = .panicked much))
def FormC (t:T):Prop:=∀ (R:Nat→Prop) (w:World) (nb L:Nat) (no:Bool) (v:Value),IsTree R w t v→(∀ b,R b→b≠nb)→Nb w nb L→Calls Tryz.prog 78 #[.pointer (some ⟨nb,0,none⟩),v,.bool no] w (NfPost nb L (nfT t no) w)
theorem IsTree.at1 {R:Nat→Prop} {w w':World} {t:T} {v:Value} {b:Nat} (h:IsTree R w t v) (hc:Chg (At1 b) w w') (hR:∀ k,R k→k≠b):IsTree R w' t v:=h.chg hc (fun k hk e=>hR k hk e)
theorem kid_at1 {R:Nat→Prop} {w w':World} {nb:Nat} {b:Nat} (hc:Chg (At1 nb) w w') (hR:∀ k,R k→k≠nb) (hb:R b) {o:Nat} {u:Value} (h:w.cell? ⟨b,o,none⟩=some u):w'.cell? ⟨b,o,none⟩=some u:=hc.cell' h (hR b hb)
theorem nf_two {k:Int} {a b:T} {w w1 w2 wF:World} {a0 a1 a2 b0 b1 b2:Value} {lo1 lo2 D:Nat} (h1:Fresh (Ge lo1) w1 a (.agg #[a0,a1,a2])) (h2:Fresh (Ge lo2) w2 b (.agg #[b0,b1,b2])) (hl1:w.heap.size≤lo1) (hl2:w.heap.size≤lo2)
 (S:Nat→Prop) (hS1:∀ q,S q→q < lo1∨w1.heap.size≤q) (hS2:∀ q,S q→q < lo2∨w2.heap.size≤q) (c1:Chg S w1 wF) (c2:Chg S w2 wF) (hD:wF.heap[D]? = some (.cells #[a0,a1,a2,b0,b1,b2] 24 (0,0))) (hDl:w.heap.size≤D) :
 Fresh (Ge w.heap.size) wF (.node k [] [a,b]) (.agg #[.int .i64 k,.string ⟨#[]⟩,.slice (some ⟨D,0,none⟩) 2 2]):=by
 rw [Fresh]
 refine .inr ⟨D,_,hDl,rfl,hD,by simp,?_⟩
 rw [FreshL,FreshL,FreshL]
 refine ⟨h1.chg c1 (fun q hq hq2 e=>?_) (fun q hq=>Nat.le_trans hl1 hq),h2.chg c2 (fun q hq hq2 e=>?_) (fun q hq=>Nat.le_trans hl2 hq),trivial⟩
 ·have hq:lo1≤q:=hq
  rcases hS1 q e with h | h <;> omega
 ·have hq:lo2≤q:=hq
  rcases hS2 q e with h | h <;> omega
theorem nf_one {k:Int} {a:T} {w w1 wF:World} {a0 a1 a2:Value} {lo1 D:Nat} (h1:Fresh (Ge lo1) w1 a (.agg #[a0,a1,a2])) (hl1:w.heap.size≤lo1)
 (S:Nat→Prop) (hS1:∀ q,S q→q < lo1∨w1.heap.size≤q) (c1:Chg S w1 wF) (hD:wF.heap[D]? = some (.cells #[a0,a1,a2] 24 (0,0))) (hDl:w.heap.size≤D) :
 Fresh (Ge w.heap.size) wF (.node k [] [a]) (.agg #[.int .i64 k,.string ⟨#[]⟩,.slice (some ⟨D,0,none⟩) 1 1]):=by
 rw [Fresh]
 refine .inr ⟨D,_,hDl,rfl,hD,by simp,?_⟩
 rw [FreshL,FreshL]
 refine ⟨h1.chg c1 (fun q hq hq2 e=>?_) (fun q hq=>Nat.le_trans hl1 hq),trivial⟩
 have hq:lo1≤q:=hq
 rcases hS1 q e with h | h <;> omega
theorem pair_any (t a b:T) (hkids:t.kids=[a,b]) (hfa:FormC a) (hfb:FormC b) (R:Nat→Prop) (w:World) (nb L:Nat) (k:Int) (no not:Bool) (v:Value) (ht:IsTree R w t v) (hR:∀ b,R b→b≠nb) (hN:Nb w nb L) :
 Calls Tryz.prog 132 #[.pointer (some ⟨nb,0,none⟩),.int .i64 k,v,.bool no,.bool not] w (NfPost nb L (.node k [] [nfT a no,nfT b not]) w):=by
 obtain ⟨ao,cap,rfl,hlen,hk⟩:=ht.parts
 rw [hkids] at hk
 obtain ⟨b1,o1,ak,capk,hao,hRb,p0,p1,p2,_,_,hta⟩:=hk.kid (j:=0) (t:=a) rfl
 obtain ⟨b2,o2,bk,bcapk,hao2,hRb2,q0,q1,q2,_,_,htb⟩:=hk.kid (j:=1) (t:=b) rfl
 subst hao
 cases hao2
 have hlen2:t.kids.length=2:=by rw [hkids];rfl
 rw [hlen2]
 rw [Nat.zero_mul,Nat.add_zero] at p0 p1 p2
 rw [Nat.one_mul] at q0 q1 q2
 have hW:Hid (∃ W,W=(w.alloc (.cells #[.int .i64 t.kind,.string ⟨t.name.toArray⟩,.slice (some ⟨b1,o1,none⟩) 2 cap] 24)).alloc (.cells #[.int .i64 0,.string ⟨#[]⟩,.slice none 0 0] 24)∧Chg Nob w W∧W.heap.size=w.heap.size+2 ∧
  W.heap[w.heap.size]? = some (.cells #[.int .i64 t.kind,.string ⟨t.name.toArray⟩,.slice (some ⟨b1,o1,none⟩) 2 cap] 24 (0,0))∧W.heap[w.heap.size+1]? = some (.cells #[.int .i64 0,.string ⟨#[]⟩,.slice none 0 0] 24 (0,0))):=by
  refine ⟨_,rfl,((Chg.refl _ _).alloc _).alloc _,by rw [World.size_alloc,World.size_alloc],((Chg.refl Nob _).alloc _).at (heap_alloc_new w _) (fun e=>e),?_⟩
  have:=heap_alloc_new (w.alloc (.cells #[.int .i64 t.kind,.string ⟨t.name.toArray⟩,.slice (some ⟨b1,o1,none⟩) 2 cap] 24)) (.cells #[.int .i64 0,.string ⟨#[]⟩,.slice none 0 0] 24)
  rwa [World.size_alloc] at this
 have Hp:=Lib.hid (And.intro p0 (And.intro p1 p2))
 have Hq:=Lib.hid (And.intro q0 (And.intro q1 q2))
 have Hta:=Lib.hid hta
 have Htb:=Lib.hid htb
 have Hfa:=Lib.hid hfa
 have Hfb:=Lib.hid hfb
 have hnb:=hN.lt
 have HN:=Lib.hid hN
 clear ht hk hkids p0 p1 p2 q0 q1 q2 hta htb hfa hfb hN hlen2
 go_enter Tryz.func132,Tryz.ntmps132
 go_wp2_with fail
 obtain ⟨W,hWe,hcW,hsW,hbx,hres⟩:=hW.out
 rw [← hWe]
 clear hWe hW
 have Hbx:=Lib.hid hbx
 have Hres:=Lib.hid hres
 have HsW:=Lib.hid hsW
 clear hbx hres hsW
 (with_reducible refine (npart_any W nb L k none 0 0 (HN.out.nob hcW)).mono ?_)
 rintro e w1 ⟨hc1,⟨m,rfl,rfl,hN1⟩ | ⟨rfl,rfl⟩⟩
 ·have hle:=HN.out.le
  have g0:=cell_row hN1.blk 0 (v:= .int .i64 (m:Int)) rfl
  have g1:w1.frozen? ⟨nb,0,none⟩=false:=by simp [World.frozen?,hN1.blk]
  have hN2:Nb (w1.setCell ⟨nb,0,none⟩ (.int .i64 ((m:Int)+1))) nb (m+1):=⟨block_one_set hN1.blk,hle⟩
  have hc2:Chg (At1 nb) W (w1.setCell ⟨nb,0,none⟩ (.int .i64 ((m:Int)+1))):=hc1.setCell (p:=⟨nb,0,none⟩) (fun _=>rfl) _
  have ew:wrap64 ((m:Int)+1)=(m:Int)+1:=by unfold wrap64;omega
  have hbx2:=hc2.at Hbx.out (fun e=>by have e:w.heap.size=nb:=e;omega)
  obtain ⟨c0,c1,c2,_⟩:=cells_three hbx2
  have hcw2:Chg (At1 nb) w (w1.setCell ⟨nb,0,none⟩ (.int .i64 ((m:Int)+1))):=hcW.any.trans1 hc2
  have p0:=kid_at1 hcw2 hR hRb Hp.out.1
  have p1:=kid_at1 hcw2 hR hRb Hp.out.2.1
  have p2:=kid_at1 hcw2 hR hRb Hp.out.2.2
  have hs1:=hc2.size
  have hcallA:=Hfa.out R _ nb (m+1) no _ (Hta.out.at1 hcw2 hR) hR hN2
  have HN2:=Lib.hid hN2
  have Hbx2:=Lib.hid hbx2
  clear hN1 hN2 hbx2
  go_wp2_with fail
  generalize w1.setCell ⟨nb,0,none⟩ (.int .i64 ((m:Int)+1))=w2 at *
  (with_reducible refine hcallA.mono ?_)
  clear hcallA g0 g1 c0 c1 c2 p0 p1 p2
  rintro e w3 ⟨hc3,⟨va,hsa,rfl,hFa,hN3⟩ | ⟨hsa,rfl⟩⟩
  ·obtain ⟨a5,acap,rfl⟩:=hFa.agg
   obtain ⟨na,hna⟩:∃ na,na=nfT a no:=⟨_,rfl⟩
   rw [← hna] at hsa hFa hN3 ⊢
   have Hna:=Lib.hid hna
   clear hna
   have hA:Chg Nob w3 (w3.alloc (.cells #[.int .i64 na.kind,.string ⟨na.name.toArray⟩,.slice a5 na.kids.length acap] 24)):=(Chg.refl _ _).alloc _
   have hta3:=heap_alloc_new w3 (.cells #[.int .i64 na.kind,.string ⟨na.name.toArray⟩,.slice a5 na.kids.length acap] 24)
   have hs3:(w3.alloc (.cells #[.int .i64 na.kind,.string ⟨na.name.toArray⟩,.slice a5 na.kids.length acap] 24)).heap.size=w3.heap.size+1:=World.size_alloc _ _
   have hN3A:=hN3.nob hA
   have hc23:=hc3.trans1 hA.any
   have hcw3:=hcw2.trans1 hc23
   have hs23:=hc3.size
   have hsW:=HsW.out
   have hbx3:=hc23.at Hbx2.out (fun e=>by have e:w.heap.size=nb:=e;omega)
   obtain ⟨c0,c1,c2,_⟩:=cells_three hbx3
   have q0:=kid_at1 hcw3 hR hRb Hq.out.1
   have q1:=kid_at1 hcw3 hR hRb Hq.out.2.1
   have q2:=kid_at1 hcw3 hR hRb Hq.out.2.2
   have hcallB:=Hfb.out R _ nb _ not _ (Htb.out.at1 hcw3 hR) hR hN3A
   have Hta3:=Lib.hid hta3
   have Hs3:=Lib.hid hs3
   clear hN3 hN3A hbx3 hta3 hs3
   go_wp2_with fail
   generalize w3.alloc (.cells #[.int .i64 na.kind,.string ⟨na.name.toArray⟩,.slice a5 na.kids.length acap] 24)=W3 at *
   (with_reducible refine hcallB.mono ?_)
   clear hcallB c0 c1 c2 q0 q1 q2
   rintro e w4 ⟨hc4,⟨vb,hsb,rfl,hFb,hN4⟩ | ⟨hsb,rfl⟩⟩
   ·obtain ⟨b5,bcap,rfl⟩:=hFb.agg
    obtain ⟨nb',hnb'⟩:∃ n',n'=nfT b not:=⟨_,rfl⟩
    rw [← hnb'] at hsb hFb hN4 ⊢
    have Hnb':=Lib.hid hnb'
    clear hnb'
    have hB:Chg Nob w4 (w4.alloc (.cells #[.int .i64 nb'.kind,.string ⟨nb'.name.toArray⟩,.slice b5 nb'.kids.length bcap] 24)):=(Chg.refl _ _).alloc _
    have htb4:=heap_alloc_new w4 (.cells #[.int .i64 nb'.kind,.string ⟨nb'.name.toArray⟩,.slice b5 nb'.kids.length bcap] 24)
    have hs4:(w4.alloc (.cells #[.int .i64 nb'.kind,.string ⟨nb'.name.toArray⟩,.slice b5 nb'.kids.length bcap] 24)).heap.size=w4.heap.size+1:=World.size_alloc _ _
    have hN4B:=hN4.nob hB
    have hc34:=hc4.trans1 hB.any
    have hz4:=hc4.size
    have hs3':=Hs3.out
    have hta4:=hc34.at Hta3.out (fun e=>by have e:w3.heap.size=nb:=e;omega)
    have hres4:=hc34.at (hc23.at (hc2.at Hres.out (fun e=>by have e:w.heap.size+1=nb:=e;omega)) (fun e=>by have e:w.heap.size+1=nb:=e;omega)) (fun e=>by have e:w.heap.size+1=nb:=e;omega)
    obtain ⟨c0,c1,c2,_⟩:=cells_three hta4
    obtain ⟨d0,d1,d2,_⟩:=cells_three htb4
    have hD:Chg Nob (w4.alloc (.cells #[.int .i64 nb'.kind,.string ⟨nb'.name.toArray⟩,.slice b5 nb'.kids.length bcap] 24)) ((w4.alloc (.cells #[.int .i64 nb'.kind,.string ⟨nb'.name.toArray⟩,.slice b5 nb'.kids.length bcap] 24)).alloc (.cells #[.int .i64 na.kind,.string ⟨na.name.toArray⟩,.slice a5 na.kids.length acap,.int .i64 nb'.kind,.string ⟨nb'.name.toArray⟩,.slice b5 nb'.kids.length bcap] 24)):=(Chg.refl _ _).alloc _
    have hDn:=heap_alloc_new (w4.alloc (.cells #[.int .i64 nb'.kind,.string ⟨nb'.name.toArray⟩,.slice b5 nb'.kids.length bcap] 24)) (.cells #[.int .i64 na.kind,.string ⟨na.name.toArray⟩,.slice a5 na.kids.length acap,.int .i64 nb'.kind,.string ⟨nb'.name.toArray⟩,.slice b5 nb'.kids.length bcap] 24)
    rw [hs4] at hDn
    have hcallP:=npart_any _ nb _ k (some ⟨w4.heap.size+1,0,none⟩) 2 2 (hN4B.nob hD)
    have Hres4:=Lib.hid (hD.at hres4 (fun e=>e))
    have HDn:=Lib.hid hDn
    have Hc4D:=Lib.hid (hB.trans1 hD)
    have Hs4:=Lib.hid hs4
    clear hN4 hN4B hta4 htb4 hres4 hDn hs4 hD
    go_wp2_with fail
    generalize (w4.alloc (.cells #[.int .i64 nb'.kind,.string ⟨nb'.name.toArray⟩,.slice b5 nb'.kids.length bcap] 24)).alloc (.cells #[.int .i64 na.kind,.string ⟨na.name.toArray⟩,.slice a5 na.kids.length acap,.int .i64 nb'.kind,.string ⟨nb'.name.toArray⟩,.slice b5 nb'.kids.length bcap] 24)=W5 at *
    (with_reducible refine hcallP.mono ?_)
    clear hcallP c0 c1 c2 d0 d1 d2
    rintro e w6 ⟨hc6,⟨m2,hm2,rfl,hN6⟩ | ⟨hm2,rfl⟩⟩
    ·have hz5:=Hc4D.out.size
     have hres6:=hc6.at Hres4.out (fun e=>by have e:w.heap.size+1=nb:=e;omega)
     obtain ⟨c0,c1,c2,f0,f1,f2⟩:=cells_three hres6
     have k7:=chg_three w6 (w.heap.size+1) (.int .i64 k) (.string ⟨#[]⟩) (.slice (some ⟨w4.heap.size+1,0,none⟩) 2 2)
     have hb7:=block_three_all hres6 (.int .i64 k) (.string ⟨#[]⟩) (.slice (some ⟨w4.heap.size+1,0,none⟩) 2 2)
     obtain ⟨e0,e1,e2,_⟩:=cells_three hb7
     have h46:Chg (At1 nb) w4 w6:=Hc4D.out.any.trans1 hc6
     have h47:Chg (fun q=>q=nb∨q=w.heap.size+1) w4 _:=(h46.mono (fun _ _ e=> .inl e)).trans k7 (fun _ _ e=> .inr e)
     have h37:Chg (fun q=>q=nb∨q=w.heap.size+1) w3 _:=(((hA.any).trans1 hc4).mono (fun _ _ e=> .inl e)).trans h47 (fun _ _ e=>e)
     have hc7:Chg (At1 nb) w _:=((hcw3.trans1 hc4).mono (fun _ _ e=> .inl e):Chg (fun q=>q=nb∨q=w.heap.size+1) w w4).trans1 h47 |>.mono (fun i hi e=>by rcases e with e | e;exact e;omega)
     have hF:=nf_two (k:=k) hFa hFb (by omega) (by omega) (fun q=>q=nb∨q=w.heap.size+1) (fun q e=>by rcases e with e | e <;> omega) (fun q e=>by rcases e with e | e <;> omega) h37 h47
      (k7.at (hc6.at HDn.out (fun e=>by have e:w4.heap.size+1=nb:=e;omega)) (fun e=>by have e:w4.heap.size+1=w.heap.size+1:=e;omega)) (by omega:w.heap.size≤w4.heap.size+1)
     have hN7:=hN6.at1 k7 (by omega)
     have hsize:sizeT (T.node k [] [na,nb'])=1+(sizeT na+sizeT nb'):=by rw [sizeT,sizeL,sizeL,sizeL];omega
     have Hpost:Hid (NfPost nb (m+1) (T.node k [] [nfT a no,nfT b not]) w (.returned (.agg #[.int .i64 k,.string ⟨#[]⟩,.slice (some ⟨w4.heap.size+1,0,none⟩) 2 2])) (((w6.setCell ⟨w.heap.size+1,0,none⟩ (.int .i64 k)).setCell ⟨w.heap.size+1,1,none⟩ (.string ⟨#[]⟩)).setCell ⟨w.heap.size+1,2,none⟩ (.slice (some ⟨w4.heap.size+1,0,none⟩) 2 2))):=by
      show NfPost _ _ _ _ _ _
      rw [← Hna.out,← Hnb'.out]
      exact ⟨hc7,.inl ⟨_,by omega,rfl,hF,by rw [show m+1 - sizeT (T.node k [] [na,nb'])=m2 by omega];exact hN7⟩⟩
     have He:=Lib.hid (And.intro e0 (And.intro e1 e2))
     clear k7 hb7 h47 h37 hc7 hF hN7 hres6 e0 e1 e2 hN6 hsize hFa hFb
     go_wp2
     obtain ⟨e0,e1,e2⟩:=He.out
     exact bodyPost_ret (v:= .agg #[.int .i64 k,.string ⟨#[]⟩,.slice (some ⟨w4.heap.size+1,0,none⟩) 2 2]) (by simp [results,Tryz.results132,go_sem,e0,e1,e2]) rfl Hpost.out
    ·go_wp2
     refine ⟨rfl,(hcw3.trans1 hc4).trans1 (Hc4D.out.any.trans1 hc6),.inr ⟨?_,rfl⟩⟩
     rw [← Hna.out,← Hnb'.out,sizeT,sizeL,sizeL,sizeL];omega
   ·go_wp2
    refine ⟨rfl,hcw3.trans1 hc4,.inr ⟨?_,rfl⟩⟩
    rw [← Hna.out,sizeT,sizeL,sizeL,sizeL];omega
  ·go_wp2
   exact ⟨rfl,hcw2.trans1 hc3,.inr ⟨by rw [sizeT,sizeL,sizeL,sizeL];omega,rfl⟩⟩
 ·go_wp2
  exact ⟨rfl,hcW.any.trans1 hc1,.inr ⟨by rw [sizeT];omega,rfl⟩⟩
end Go.Proofs.YtkgfdgfhpdhhaaaGreat
