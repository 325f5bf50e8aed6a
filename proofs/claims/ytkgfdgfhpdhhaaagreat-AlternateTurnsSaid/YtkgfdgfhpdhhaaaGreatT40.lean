/- The law AlternateTurns: the walk. Conditions: the formulas, the names, the word lie in the world. -/
import Derived.Test.YtkgfdgfhpdhhaaaGreatT13
import Derived.Test.YtkgfdgfhpdhhaaaGreatT38
import Derived.Test.YtkgfdgfhpdhhaaaGreatT39
import Derived.Test.YtkgfdgfhpdhhaaaGreatT34
namespace Go.Proofs.YtkgfdgfhpdhhaaaGreat
open Go.ChangeShapes Go.WideShapes Go.ChangeAt Go.RowKit
attribute [local go_sem] Oper.semAt_some
set_option maxRecDepth 100000
set_option maxHeartbeats 8000000
def fiveT (a b:T):List T:=[a,.node 4 [] [a],b,.node 8 [] [a,b],.node 9 [] [a,b]]
theorem tree_kids1 {w:World} {g:Nat} {k:Int} {t:T} {a:Option Addr} {c:Nat} (h:w.heap[g]? = some (.cells #[.int .i64 t.kind,.string ⟨t.name.toArray⟩,.slice a t.kids.length c] 24 (0,0))) (ht:TI w t (.agg #[.int .i64 t.kind,.string ⟨t.name.toArray⟩,.slice a t.kids.length c])) :
 TI w (.node k [] [t]) (.agg #[.int .i64 k,.string ⟨#[]⟩,.slice (some ⟨g,0,none⟩) 1 1]):=by
 refine IsTree.of_parts (t:= .node k [] [t]) (by show 1≤_;omega) ?_
 unfold T.kids
 rw [IsKids,IsKids]
 exact ⟨⟨g,0,_,_,_,rfl,(Array.getElem?_eq_some_iff.1 h).1,cell_row h 0 rfl,cell_row h 1 rfl,cell_row h 2 rfl,ht⟩,trivial⟩
theorem tree_kids2 {w:World} {g:Nat} {k:Int} {t u:T} {a b:Option Addr} {c d:Nat} (h:w.heap[g]? = some (.cells #[.int .i64 t.kind,.string ⟨t.name.toArray⟩,.slice a t.kids.length c,.int .i64 u.kind,.string ⟨u.name.toArray⟩,.slice b u.kids.length d] 24 (0,0)))
 (ht:TI w t (.agg #[.int .i64 t.kind,.string ⟨t.name.toArray⟩,.slice a t.kids.length c])) (hu:TI w u (.agg #[.int .i64 u.kind,.string ⟨u.name.toArray⟩,.slice b u.kids.length d])) :
 TI w (.node k [] [t,u]) (.agg #[.int .i64 k,.string ⟨#[]⟩,.slice (some ⟨g,0,none⟩) 2 2]):=by
 refine IsTree.of_parts (t:= .node k [] [t,u]) (by show 2≤_;omega) ?_
 unfold T.kids
 rw [IsKids,IsKids,IsKids]
 exact ⟨⟨g,0,_,_,_,rfl,(Array.getElem?_eq_some_iff.1 h).1,cell_row h 0 rfl,cell_row h 1 rfl,cell_row h 2 rfl,ht⟩,⟨g,0,_,_,_,rfl,(Array.getElem?_eq_some_iff.1 h).1,cell_row h 3 rfl,cell_row h 4 rfl,cell_row h 5 rfl,hu⟩,trivial⟩
theorem b_not {y0 y1:Bool} {p:Prop} (h0:y0=true↔p) (h1:y1=true↔¬ p):y1=!y0:=by
 rw [← h0] at h1
 cases y0 <;> cases y1 <;> first | rfl | exact absurd (h1.2 (by decide)) (by decide) | exact absurd (h1.1 rfl) (by decide)
theorem b_and {y0 y2 y3:Bool} {p q:Prop} (h0:y0=true↔p) (h2:y2=true↔q) (h3:y3=true↔p∧q):y3=(y0&&y2):=by
 rw [← h0,← h2] at h3
 cases y0 <;> cases y2 <;> cases y3 <;> first | rfl | exact absurd (h3.2 (by decide)) (by decide) | exact absurd (h3.1 rfl) (by decide)
theorem b_or {y0 y2 y3:Bool} {p q:Prop} (h0:y0=true↔p) (h2:y2=true↔q) (h3:y3=true↔p∨q):y3=(y0 || y2):=by
 rw [← h0,← h2] at h3
 cases y0 <;> cases y2 <;> cases y3 <;> first | rfl | exact absurd (h3.2 (by decide)) (by decide) | exact absurd (h3.1 rfl) (by decide)
theorem tree_ti {w:World} {t:T} {v:Value} (h:TI w t v):IsTree (fun b=>b < w.heap.size) w t v:=h
theorem turns_walk (w:World) {va vb:Value} {ta tb:T} {an ap al:Option Addr} {cn cp cl:Nat} {names:List (List UInt8)} {P Q:List Int} (hta:TI w ta va) (htb:TI w tb vb) (hnm:Texts w (.slice an names.length cn) names) (hcn:names.length≤cn)
 (hP:URow w ap P) (hQ:URow w al Q) (hnp:ap=none→cp=0) (hnl:al=none→cl=0) (hl:P.length+Q.length≤1000000000000000000) :
 Calls Tryz.prog 3 #[va,vb,.slice an names.length cn,.agg #[.slice ap P.length cp,.slice al Q.length cl]] w fun e w'=>e = .returned (.bool true)∧Chg Nob w w':=by
 obtain ⟨aa,ca,rfl⟩:=hta.agg
 obtain ⟨ab,cb,rfl⟩:=htb.agg
 obtain ⟨x,hx⟩:∃ x,x=w.heap.size:=⟨_,rfl⟩
 obtain ⟨X1,hX1,hcX1,hbX1,hsX1⟩:=box_cells w #[.int .i64 ta.kind,.string ⟨ta.name.toArray⟩,.slice aa ta.kids.length ca] 24
 obtain ⟨X2,hX2,hcX2,hbX2,hsX2⟩:=box_cells X1 #[.int .i64 tb.kind,.string ⟨tb.name.toArray⟩,.slice ab tb.kids.length cb] 24
 obtain ⟨X,hX,hcX,hbX,hsX⟩:=box_cells X2 #[.slice ap P.length cp,.slice al Q.length cl] 28
 rw [hsX1] at hbX2 hsX2
 rw [hsX2] at hbX hsX
 rw [← hx] at hbX1 hsX1 hbX2 hsX2 hbX hsX
 have hcw:Chg Nob w X:=(hcX1.trans1 hcX2).trans1 hcX
 have Hb1:=Lib.hid ((hcX2.trans1 hcX).at hbX1 (fun e=>e))
 have Hb2:=Lib.hid (hcX.at hbX2 (fun e=>e))
 have Hb3:=Lib.hid hbX
 have HS:Hid (∀ V,Chg Nob X V→(V.cell? ⟨x,0,none⟩=some (.int .i64 ta.kind)∧V.cell? ⟨x,1,none⟩=some (.string ⟨ta.name.toArray⟩)∧V.cell? ⟨x,2,none⟩=some (.slice aa ta.kids.length ca))∧(V.cell? ⟨x+1,0,none⟩=some (.int .i64 tb.kind)∧V.cell? ⟨x+1,1,none⟩=some (.string ⟨tb.name.toArray⟩)∧V.cell? ⟨x+1,2,none⟩=some (.slice ab tb.kids.length cb))∧V.cell? ⟨x+1+1,0,none⟩=some (.slice ap P.length cp)∧V.cell? ⟨x+1+1,1,none⟩=some (.slice al Q.length cl)):=(show ∀ V,Chg Nob X V→_ from fun V h=>by
  obtain ⟨a0,a1,a2,_⟩:=cells_three (h.at Hb1.out (fun e=>e))
  obtain ⟨b0,b1,b2,_⟩:=cells_three (h.at Hb2.out (fun e=>e))
  obtain ⟨c0,c1,_⟩:=cell_two (h.at Hb3.out (fun e=>e))
  exact ⟨⟨a0,a1,a2⟩,⟨b0,b1,b2⟩,c0,c1⟩)
 have Hta:=Lib.hid (hta.nob hcw)
 have Htb:=Lib.hid (htb.nob hcw)
 have Hnm:=Lib.hid (Texts.nob hnm hcw)
 have HP:=Lib.hid (hP.nob hcw)
 have HQ:=Lib.hid (hQ.nob hcw)
 have Hcw:=Lib.hid hcw
 have Hx:=Lib.hid hx
 have Hsx:Hid (X.heap.size=x+1+1+1):=Lib.hid hsX
 have HX1:=Lib.hid hX1
 have HX2:=Lib.hid hX2
 have HX:=Lib.hid hX
 have Hs1:=Lib.hid hsX1
 have Hs2:=Lib.hid hsX2
 obtain ⟨⟨a0,a1,a2⟩,⟨b0,b1,b2⟩,c0,c1⟩:=HS.out X (Chg.refl _ _)
 clear hta htb hnm hP hQ hcX1 hcX2 hcX hbX1 hbX2 hbX hsX1 hsX2 hsX hcw hx hX1 hX2 hX
 go_enter Tryz.func3,Tryz.ntmps3
 go_upto_region 1 with fail
 rw [← HX1.out,← HX2.out,← HX.out]
 rw [← Hx.out]
 have hga:=rgreat_any Hta.out
 by_cases ga:greatT ta 100000≤0
 ·rw [decide_eq_true ga] at hga
  clear ga
  go_wp2_with fail
  (with_reducible refine hga.mono ?_)
  clear hga a0 a1 a2 b0 b1 b2 c0 c1
  rintro e w2 ⟨rfl,hc2⟩
  have H2:=Lib.hid (Hcw.out.trans1 hc2)
  clear hc2
  go_wp2_with fail
  (with_reducible refine (aknown_any _).mono ?_)
  rintro e w3 ⟨rfl,hc3⟩
  have H3:=Lib.hid (H2.out.trans1 hc3)
  clear hc3
  go_wp2
  go_ret
  exact ⟨rfl,H3.out⟩
 rw [decide_eq_false ga] at hga
 have Hga:=Lib.hid ga
 clear ga
 go_wp2_with fail
 (with_reducible refine hga.mono ?_)
 clear hga a0 a1 a2 b0 b1 b2 c0 c1
 rintro e w2 ⟨rfl,hc2⟩
 have hgb:=rgreat_any (Htb.out.nob hc2)
 have H2:=Lib.hid hc2
 obtain ⟨⟨a0,a1,a2⟩,⟨b0,b1,b2⟩,c0,c1⟩:=HS.out w2 hc2
 clear hc2
 by_cases gb:greatT tb 100000≤0
 ·rw [decide_eq_true gb] at hgb
  clear gb
  go_wp2_with fail
  (with_reducible refine hgb.mono ?_)
  clear hgb a0 a1 a2 b0 b1 b2 c0 c1
  rintro e w3 ⟨rfl,hc3⟩
  have H3:=Lib.hid ((Hcw.out.trans1 H2.out).trans1 hc3)
  clear hc3
  go_wp2_with fail
  (with_reducible refine (aknown_any _).mono ?_)
  rintro e w4 ⟨rfl,hc4⟩
  have H4:=Lib.hid (H3.out.trans1 hc4)
  clear hc4
  go_wp2
  go_ret
  exact ⟨rfl,H4.out⟩
 rw [decide_eq_false gb] at hgb
 have Hgb:=Lib.hid gb
 clear gb
 go_wp2_with fail
 (with_reducible refine hgb.mono ?_)
 clear hgb a0 a1 a2 b0 b1 b2 c0 c1
 rintro e w3 ⟨rfl,hc3⟩
 have H3:=Lib.hid (H2.out.trans1 hc3)
 clear hc3 H2
 have Hza:Hid (sizeT ta≤100000):=Lib.hid (great_size (by have:=Hga.out;omega))
 have Hzb:Hid (sizeT tb≤100000):=Lib.hid (great_size (by have:=Hgb.out;omega))
 go_upto_region 3 with fail
 obtain ⟨⟨a0,a1,a2⟩,⟨b0,b1,b2⟩,c0,c1⟩:=HS.out w3.drew H3.out.drew
 by_cases hbig:400 < sizeR ta+sizeR tb
 ·have hbi:(400:Int) < (sizeR ta:Int)+(sizeR tb:Int):=by omega
  have hbd:decide ((400:Int) < (sizeR ta:Int)+(sizeR tb:Int))=true:=decide_eq_true hbi
  have hsr:sizeR ta≤20001∧sizeR tb≤20001:=by unfold sizeR;split <;> split <;> omega
  refine wp_region_free (fun _=>true) (fun w'=>(w'.cell? ⟨x,0,none⟩=some (.int .i64 ta.kind)∧w'.cell? ⟨x,1,none⟩=some (.string ⟨ta.name.toArray⟩)∧w'.cell? ⟨x,2,none⟩=some (.slice aa ta.kids.length ca))∧(w'.cell? ⟨x+1,0,none⟩=some (.int .i64 tb.kind)∧w'.cell? ⟨x+1,1,none⟩=some (.string ⟨tb.name.toArray⟩)∧w'.cell? ⟨x+1,2,none⟩=some (.slice ab tb.kids.length cb))∧w'.cell? ⟨x+1+1,0,none⟩=some (.slice ap P.length cp)∧w'.cell? ⟨x+1+1,1,none⟩=some (.slice al Q.length cl)) (by kernel_rfl) ⟨⟨a0,a1,a2⟩,⟨b0,b1,b2⟩,c0,c1⟩ (fun hHeld=>?_)
  refine tkG 0 hHeld ?_
  refine tkG 2 hHeld ?_
  refine rdG 1 fun K hK=>?_
  go_simp
  (with_reducible refine (rsize_any _ 1000000 ta (by have:=Hza.out;omega) _ _ (tree_ti (TI.nob Hta.out (H3.out.drew)))).mono ?_)
  rintro e w4 ⟨rfl,hc⟩
  have H4:Hid (Chg Nob X w4):=Lib.hid (Chg.trans1 (H3.out.drew) hc)
  clear hc
  refine hK.out _ _ (fun _=>HS.out _ H4.out) ?_
  clear hK K
  try simp only [Act.put]
  refine rdG 3 fun K hK=>?_
  go_simp
  (with_reducible refine (rsize_any _ 1000000 tb (by have:=Hzb.out;omega) _ _ (tree_ti (TI.nob Htb.out (H4.out)))).mono ?_)
  rintro e w5 ⟨rfl,hc⟩
  have H5:Hid (Chg Nob X w5):=Lib.hid (Chg.trans1 (H4.out) hc)
  clear hc
  refine hK.out _ _ (fun _=>HS.out _ H5.out) ?_
  clear hK K
  try simp only [Act.put]
  refine tkB 4 (HS.out _ H5.out) ?_
  refine tkG 5 (HS.out _ H5.out) ?_
  refine tkG 6 (HS.out _ H5.out) ?_
  refine wpAnyG_take (i:=7) (v:=undef) rfl (by kernel_rfl) (fun _ _ _ h=>h) (Or.inr ⟨by kernel_rfl,rfl⟩) (HS.out _ H5.out) ?_
  try simp only [Act.put]
  refine wpAnyG_ready (rs:=[8]) (by kernel_rfl) (by simp) ?_
  refine AllReadyG.cons rfl (fun K hK=>?_) AllReadyG.nil
  rw [if_neg (Bool.eq_false_iff.1 (by kernel_rfl))]
  refine hK.out _ _ (fun _=>(HS.out _ H5.out)) ?_
  clear hK K
  try simp only [Act.put]
  refine wpAnyG_take (i:=9) (v:=undef) rfl (by kernel_rfl) (fun _ _ _ h=>h) (Or.inr ⟨by kernel_rfl,rfl⟩) (HS.out _ H5.out) ?_
  try simp only [Act.put]
  refine tkG 10 (HS.out _ H5.out) ?_
  refine wpAnyG_done (by kernel_rfl) ?_ _
  go_simp
  clear hHeld a0 a1 a2 b0 b1 b2 c0 c1
  go_wp2_with fail
  (with_reducible refine (aknown_any _).mono ?_)
  rintro e w7 ⟨rfl,hc⟩
  have H7:Hid (Chg Nob w w7):=Lib.hid ((Hcw.out.trans1 H5.out).trans1 hc)
  clear hc
  go_wp2
  go_ret
  exact ⟨rfl,H7.out⟩
 have hbi:¬ (400:Int) < (sizeR ta:Int)+(sizeR tb:Int):=by omega
 have hbd:decide ((400:Int) < (sizeR ta:Int)+(sizeR tb:Int))=false:=decide_eq_false hbi
 have hsr:sizeR ta≤20001∧sizeR tb≤20001:=by omega
 refine wp_region_free (fun _=>true) (fun w'=>(w'.cell? ⟨x,0,none⟩=some (.int .i64 ta.kind)∧w'.cell? ⟨x,1,none⟩=some (.string ⟨ta.name.toArray⟩)∧w'.cell? ⟨x,2,none⟩=some (.slice aa ta.kids.length ca))∧(w'.cell? ⟨x+1,0,none⟩=some (.int .i64 tb.kind)∧w'.cell? ⟨x+1,1,none⟩=some (.string ⟨tb.name.toArray⟩)∧w'.cell? ⟨x+1,2,none⟩=some (.slice ab tb.kids.length cb))∧w'.cell? ⟨x+1+1,0,none⟩=some (.slice ap P.length cp)∧w'.cell? ⟨x+1+1,1,none⟩=some (.slice al Q.length cl)) (by kernel_rfl) ⟨⟨a0,a1,a2⟩,⟨b0,b1,b2⟩,c0,c1⟩ (fun hHeld=>?_)
 refine tkG 0 hHeld ?_
 refine tkG 2 hHeld ?_
 refine rdG 1 fun K hK=>?_
 go_simp
 (with_reducible refine (rsize_any _ 1000000 ta (by have:=Hza.out;omega) _ _ (tree_ti (TI.nob Hta.out (H3.out.drew)))).mono ?_)
 rintro e w4 ⟨rfl,hc⟩
 have H4:Hid (Chg Nob X w4):=Lib.hid (Chg.trans1 (H3.out.drew) hc)
 clear hc
 refine hK.out _ _ (fun _=>HS.out _ H4.out) ?_
 clear hK K
 try simp only [Act.put]
 refine rdG 3 fun K hK=>?_
 go_simp
 (with_reducible refine (rsize_any _ 1000000 tb (by have:=Hzb.out;omega) _ _ (tree_ti (TI.nob Htb.out (H4.out)))).mono ?_)
 rintro e w5 ⟨rfl,hc⟩
 have H5:Hid (Chg Nob X w5):=Lib.hid (Chg.trans1 (H4.out) hc)
 clear hc
 refine hK.out _ _ (fun _=>HS.out _ H5.out) ?_
 clear hK K
 try simp only [Act.put]
 refine tkB 4 (HS.out _ H5.out) ?_
 refine tkG 5 (HS.out _ H5.out) ?_
 refine tkG 6 (HS.out _ H5.out) ?_
 refine tkG 7 (HS.out _ H5.out) ?_
 refine rdG 8 fun K hK=>?_
 go_simp
 (with_reducible refine (rlcheckz_any P.length Q.length hl).mono ?_)
 rintro e w6 ⟨rfl,hc⟩
 have H6:Hid (Chg Nob X w6):=Lib.hid (Chg.trans1 H5.out hc)
 clear hc
 refine hK.out _ _ (fun _=>HS.out _ H6.out) ?_
 clear hK K
 try simp only [Act.put]
 refine tkG 9 (HS.out _ H6.out) ?_
 refine tkG 10 (HS.out _ H6.out) ?_
 refine wpAnyG_done (by kernel_rfl) ?_ _
 go_simp
 clear hHeld a0 a1 a2 b0 b1 b2 c0 c1
 by_cases hck:lcheckN P.length Q.length=0
 rotate_left
 ·have hne:(lcheckN P.length Q.length != 0)=true:=bne_iff_ne.2 hck
  clear hck
  go_wp2_with fail
  (with_reducible refine (aknown_any _).mono ?_)
  rintro e w7 ⟨rfl,hc⟩
  have H7:Hid (Chg Nob w w7):=Lib.hid ((Hcw.out.trans1 H6.out).trans1 hc)
  clear hc
  go_wp2
  go_ret
  exact ⟨rfl,H7.out⟩
 rw [hck]
 have Hck:=Lib.hid hck
 clear hck
 obtain ⟨f,hf⟩:∃ f,f=w6.heap.size:=⟨_,rfl⟩
 obtain ⟨U1,hU1,hcU1,hbU1,hsU1⟩:=box_cells w6 #[.int .i64 ta.kind,.string ⟨ta.name.toArray⟩,.slice aa ta.kids.length ca] 24
 obtain ⟨U2,hU2,hcU2,hbU2,hsU2⟩:=box_cells U1 #[.int .i64 ta.kind,.string ⟨ta.name.toArray⟩,.slice aa ta.kids.length ca,.int .i64 tb.kind,.string ⟨tb.name.toArray⟩,.slice ab tb.kids.length cb] 24
 obtain ⟨U3,hU3,hcU3,hbU3,hsU3⟩:=box_cells U2 #[.int .i64 ta.kind,.string ⟨ta.name.toArray⟩,.slice aa ta.kids.length ca,.int .i64 tb.kind,.string ⟨tb.name.toArray⟩,.slice ab tb.kids.length cb] 24
 rw [hsU1] at hbU2 hsU2
 rw [hsU2] at hbU3 hsU3
 rw [← hf] at hbU1 hsU1 hbU2 hsU2 hbU3 hsU3
 obtain ⟨⟨a0,a1,a2⟩,⟨b0,b1,b2⟩,-,-⟩:=HS.out w6 H6.out
 obtain ⟨⟨d0,d1,d2⟩,⟨e0,e1,e2⟩,-,-⟩:=HS.out U1 (H6.out.trans1 hcU1)
 obtain ⟨⟨g0,g1,g2⟩,⟨h0,h1,h2⟩,-,-⟩:=HS.out U2 ((H6.out.trans1 hcU1).trans1 hcU2)
 rw [hU1] at d0 d1 d2 e0 e1 e2
 rw [hU2,hU1] at g0 g1 g2 h0 h1 h2
 have HcU:=Lib.hid ((H6.out.trans1 hcU1).trans1 (hcU2.trans1 hcU3))
 have HbU1:=Lib.hid ((hcU2.trans1 hcU3).at hbU1 (fun e=>e))
 have HbU2:=Lib.hid (hcU3.at hbU2 (fun e=>e))
 have HbU3:=Lib.hid hbU3
 have HsU3:=Lib.hid hsU3
 have HU1:=Lib.hid hU1
 have HU2:=Lib.hid hU2
 have HU3:=Lib.hid hU3
 have Hf:=Lib.hid hf
 clear hU1 hU2 hU3 hcU1 hcU2 hcU3 hbU1 hbU2 hbU3 hsU1 hsU2 hsU3 hf
 go_upto_region 6 with fail
 rw [← HU1.out,← HU2.out,← HU3.out]
 clear a0 a1 a2 b0 b1 b2 d0 d1 d2 e0 e1 e2 g0 g1 g2 h0 h1 h2
 obtain ⟨U,hU,hcUU,hbU,hsU⟩:=box_cells U3 #[.int .i64 ta.kind,.string ⟨ta.name.toArray⟩,.slice aa ta.kids.length ca,.int .i64 4,.string ⟨#[]⟩,.slice (some ⟨f,0,none⟩) 1 1,.int .i64 tb.kind,.string ⟨tb.name.toArray⟩,.slice ab tb.kids.length cb,.int .i64 8,.string ⟨#[]⟩,.slice (some ⟨f+1,0,none⟩) 2 2,.int .i64 9,.string ⟨#[]⟩,.slice (some ⟨f+1+1,0,none⟩) 2 2] 24
 rw [HsU3.out] at hbU
 rw [← Hf.out,← hU]
 have HU:Hid (Chg Nob X U):=Lib.hid (HcU.out.trans1 hcUU)
 have hta5:=Hta.out.nob HU.out
 have htb5:=Htb.out.nob HU.out
 have h1:=tree_kids1 (k:=4) (hcUU.at HbU1.out (fun e=>e)) hta5
 have h2:=tree_kids2 (k:=8) (hcUU.at HbU2.out (fun e=>e)) hta5 htb5
 have h3:=tree_kids2 (k:=9) (hcUU.at HbU3.out (fun e=>e)) hta5 htb5
 have hsz5:sizeT ta+sizeT tb≤400:=by
  unfold sizeR at hbig
  split at hbig <;> split at hbig <;> omega
 obtain ⟨fb,hfb⟩:∃ fb,fb=f+1+1+1:=⟨_,rfl⟩
 have HF:Hid (∀ (i:Nat) (t:T),(fiveT ta tb)[i]? = some t→sizeT t≤1000000∧∃ av cv,TI U t (.agg #[.int .i64 t.kind,.string ⟨t.name.toArray⟩,.slice av t.kids.length cv])∧∀ V,Chg Nob U V→V.cell? ⟨fb,i * 3,none⟩=some (.int .i64 t.kind)∧V.cell? ⟨fb,i * 3+1,none⟩=some (.string ⟨t.name.toArray⟩)∧V.cell? ⟨fb,i * 3+2,none⟩=some (.slice av t.kids.length cv)):=(show ∀ (i:Nat) (t:T),(fiveT ta tb)[i]? = some t→_ from fun i t hi=>by
  rw [← hfb] at hbU
  have hs1:∀ k,sizeT (.node k [] [ta])=1+(sizeT ta+0):=fun k=>by rw [sizeT,sizeL,sizeL]
  have hs2:∀ k,sizeT (.node k [] [ta,tb])=1+(sizeT ta+(sizeT tb+0)):=fun k=>by rw [sizeT,sizeL,sizeL,sizeL]
  match i,hi with
  | 0,hi=>cases hi;exact ⟨by omega,aa,ca,hta5,fun V hV=>⟨cell_row (hV.at hbU (fun e=>e)) 0 rfl,cell_row (hV.at hbU (fun e=>e)) 1 rfl,cell_row (hV.at hbU (fun e=>e)) 2 rfl⟩⟩
  | 1,hi=>cases hi;exact ⟨by rw [hs1];omega,_,_,h1,fun V hV=>⟨cell_row (hV.at hbU (fun e=>e)) 3 rfl,cell_row (hV.at hbU (fun e=>e)) 4 rfl,cell_row (hV.at hbU (fun e=>e)) 5 rfl⟩⟩
  | 2,hi=>cases hi;exact ⟨by omega,ab,cb,htb5,fun V hV=>⟨cell_row (hV.at hbU (fun e=>e)) 6 rfl,cell_row (hV.at hbU (fun e=>e)) 7 rfl,cell_row (hV.at hbU (fun e=>e)) 8 rfl⟩⟩
  | 3,hi=>cases hi;exact ⟨by rw [hs2];omega,_,_,h2,fun V hV=>⟨cell_row (hV.at hbU (fun e=>e)) 9 rfl,cell_row (hV.at hbU (fun e=>e)) 10 rfl,cell_row (hV.at hbU (fun e=>e)) 11 rfl⟩⟩
  | 4,hi=>cases hi;exact ⟨by rw [hs2];omega,_,_,h3,fun V hV=>⟨cell_row (hV.at hbU (fun e=>e)) 12 rfl,cell_row (hV.at hbU (fun e=>e)) 13 rfl,cell_row (hV.at hbU (fun e=>e)) 14 rfl⟩⟩
  | i+5,hi=>unfold fiveT at hi;simp at hi)
 have HlU:Hid (x+1+1 < U.heap.size):=(show _ < _ by have:=HU.out.size;have:=Hsx.out;omega)
 have hl4:P.length+Q.length≤4096∧0 < Q.length:=by have:=lcheck_okz Hck.out;omega
 rw [← hfb]
 clear hU hcUU hbU hsU hta5 htb5 h1 h2 h3 hsz5 hfb hbig hbi hbd hsr HbU1 HbU2 HbU3 HsU3 HU1 HU2 HU3 Hf HcU Hga Hgb Hza Hzb H3 H4 H5 H6
 go_wp2_with fail
 go_loopw [10,11] (fun lv iv wr=>∃ (i:Nat) (ys:List Bool),iv = .int .i64 (i:Int)∧i≤5∧Hid (ys.length=i)∧Hid (wr.ownsRow U.heap.size 4 1 lv ys.length (ys.map Value.bool))∧Hid (Chg Nob U wr)∧Hid (∀ j t,j < i→(fiveT ta tb)[j]? = some t→mayT t=true∧(ys.getD j false=true↔holdsT t names P Q))) (fun _ iv _=>5 - (intOf iv).toNat)
 case atStart=>exact ⟨0,[],rfl,by omega,rfl,World.ownsRow_nil _ _ _ _,Chg.refl _ _,fun j t hj=>by omega⟩
 case round =>
  obtain ⟨i,ys,rfl,hi,Hyl,Hrow,Hcu,Hys⟩:=hrel
  by_cases hlt:i < 5
  ·obtain ⟨t,ht⟩:∃ t,(fiveT ta tb)[i]? = some t:=⟨_,List.getElem?_eq_getElem (by unfold fiveT;simpa using hlt)⟩
   obtain ⟨hsz,av,cv,htt,hcell⟩:=HF.out i t ht
   obtain ⟨q0,q1,q2⟩:=hcell wr Hcu.out
   obtain ⟨q,hq1,hq2⟩:=of_pick t names
   have hii:(i:Int) < 5:=by omega
   have hi0:(0:Int)≤(i:Int):=by omega
   have hof:=of_any (htt.nob Hcu.out) hsz (Texts.nob Hnm.out (HU.out.trans1 Hcu.out)) hcn (f:=q) (fun r hr h0 hn R mb=>hq1 _ r hr h0 hn R mb)
   have Hq2:=Lib.hid hq2
   have Ht:=Lib.hid ht
   clear htt hcell hq1 hq2 ht hsz
   go_wp2_with fail
   (with_reducible refine hof.mono ?_)
   clear hof q0 q1 q2
   rintro e w2 ⟨hc2,⟨c,hc0,rfl,-⟩ | ⟨I,s',ai,ci,as',cs,rfl,hI,hSt,hck0,hn0,hf0,hca⟩⟩
   ·have hcb:(c != 0)=true:=bne_iff_ne.2 hc0
    have H2:Hid (Chg Nob w w2):=Lib.hid (Hcw.out.trans1 ((HU.out.trans1 Hcu.out).trans1 hc2))
    clear hc2 hc0
    go_wp2_with fail
    (with_reducible refine (aknown_any _).mono ?_)
    rintro e w3 ⟨rfl,hc3⟩
    have H3:Hid (Chg Nob w w3):=Lib.hid ((H2.out.alloc _).trans1 hc3)
    clear hc3
    go_wp2
    go_ret
    exact ⟨rfl,H3.out⟩
   ·obtain ⟨V,hV,hcV,hbV,hsV⟩:=box_cells w2 #[.slice ai I.length ci,.slice as' s'.sts.length cs] 38
    have hfine:fineA I s'.sts:=by
     unfold checkAN at hca
     by_cases hf:fineA I s'.sts
     ·exact hf
     ·rw [if_neg hf] at hca;cases hca
    have hcXV:Chg Nob X V:=((HU.out.trans1 Hcu.out).trans1 hc2).trans1 hcV
    have hacc:Calls Tryz.prog 12 #[.agg #[.slice ai I.length ci,.slice as' s'.sts.length cs],.agg #[.slice ap P.length cp,.slice al Q.length cl]] V (AccPost I s'.sts P Q V):=accepts_any (by have:=hfine.2.1;omega) (by have:=hfine.1;omega) (hI.nob hcV) (hSt.nob hcV) (by omega) (HP.out.nob hcXV) (HQ.out.nob hcXV) hnp hnl
    have haz:accCode I s'.sts P.length Q.length=0:=by
     unfold accCode
     rw [if_neg (by rw [hca];simp)]
     exact Hck.out
    have hb:accB I s'.sts P Q=accI I s'.sts (P++Q) P.length:=by unfold accB;rw [haz];rfl
    obtain ⟨y,hy⟩:∃ y,y=accB I s'.sts P Q:=⟨_,rfl⟩
    unfold AccPost at hacc
    rw [haz,← hy] at hacc
    have Hy:Hid (mayT t=true∧(y=true↔holdsT t names P Q)):=(show _∧_ from ⟨(checkN_zero (checkedN_zero hck0).1).1,by rw [hy,hb];exact Hq2.out hck0 hn0 I s' hf0 hca P Q hl4.2⟩)
    obtain ⟨v0,v1,_⟩:=cell_two hbV
    obtain ⟨-,-,c0,c1⟩:=HS.out V hcXV
    have Hc2:Hid (Chg Nob wr V):=Lib.hid (hc2.trans1 hcV)
    have HV:=Lib.hid hV
    rw [hV] at v0 v1 c0 c1
    clear hc2 hI hSt hck0 hn0 hf0 hca hfine hcXV haz hb hy hbV hsV hcV hV
    go_wp2_with fail
    rw [← HV.out]
    (with_reducible refine hacc.mono ?_)
    clear hacc v0 v1 c0 c1
    rintro e w3 ⟨rfl,hc3⟩
    have Hc3:Hid (Chg Nob wr w3):=Lib.hid (Hc2.out.trans1 hc3)
    have hU3:U.heap.size≤w3.heap.size:=by have:=Hcu.out.size;have:=Hc3.out.size;omega
    obtain ⟨sl',w4,hrun,hrow4,hc4⟩:=push_bool y (ownsRow_chg Hrow.out Hc3.out (fun _ _ e=>e)) hU3 (by have:=Hyl.out;omega)
    have Hrun:=Lib.hid hrun
    have Hr4:=Lib.hid hrow4
    have Hc4:Hid (Chg Nob U w4):=Lib.hid ((Hcu.out.trans1 Hc3.out).trans hc4 (fun i hi e=>by have e:U.heap.size≤i:=e;omega))
    clear hrun hrow4 hc4 hc3 hU3
    go_wp2_with (first | (refine wpList_append_known rfl _ _ 34 34 rfl _ _ rfl rfl _ w4 Hrun.out ?_))
    go_roundw
    case rel =>
     refine ⟨_,_,_,_,_,_,_,_,_,_,_,_,_,_,_,_,_,_,_,_,_,_,_,_,_,_,_,_,_,_,_,_,_,_,_,_,_,⟨i+1,ys++[y],by go_num,hlt,(show (ys++[y]).length=i+1 by rw [List.length_append,Hyl.out];rfl),Hr4,Hc4,?_⟩,rfl⟩
     refine (show ∀ j u,j < i+1→(fiveT ta tb)[j]? = some u→mayT u=true∧((ys++[y]).getD j false=true↔holdsT u names P Q) from fun j u hj hu=>?_)
     have hyl:=Hyl.out
     by_cases hji:j < i
     ·have e:(ys++[y]).getD j false=ys.getD j false:=by rw [List.getD_eq_getElem?_getD,List.getElem?_append_left (by omega),← List.getD_eq_getElem?_getD]
      rw [e]
      exact Hys.out j u hji hu
     ·obtain rfl:j=i:=by omega
      have e:(ys++[y]).getD j false=y:=by rw [List.getD_eq_getElem?_getD,List.getElem?_append_right (by omega),hyl,Nat.sub_self];rfl
      rw [e]
      obtain rfl:u=t:=by have:=Ht.out;rw [hu] at this;cases this;rfl
      exact Hy.out
    case measure=>simp [intOf];omega
  ·obtain rfl:i=5:=by omega
   obtain ⟨y0,y1,y2,y3,y4,rfl⟩:∃ y0 y1 y2 y3 y4,ys=[y0,y1,y2,y3,y4]:=by
    have h5:=Hyl.out
    match ys,h5 with
    | [a,b,c,d,e],_=>exact ⟨a,b,c,d,e,rfl⟩
   have g0:=Hys.out 0 _ (by omega) rfl
   have g1:=Hys.out 1 _ (by omega) rfl
   have g2:=Hys.out 2 _ (by omega) rfl
   have g3:=Hys.out 3 _ (by omega) rfl
   have g4:=Hys.out 4 _ (by omega) rfl
   simp only [List.getD_cons_zero,List.getD_cons_succ] at g0 g1 g2 g3 g4
   have e1:y1=!y0:=b_not g0.2 (g1.2.trans (holds_not g0.1))
   have e3:y3=(y0&&y2):=b_and g0.2 g2.2 (g3.2.trans (holds_and g0.1 g2.1))
   have e4:y4=(y0 || y2):=b_or g0.2 g2.2 (g4.2.trans (holds_or g0.1 g2.1))
   have Hwr:Hid (Chg Nob w wr):=Lib.hid (Hcw.out.trans1 (HU.out.trans1 Hcu.out))
   obtain ⟨g,cg,rfl,hrow⟩:=ownsRow_some Hrow.out (by show 0 < 5;omega)
   have r0:=hrow 0 _ rfl
   have r1:=hrow 1 _ rfl
   have r2:=hrow 2 _ rfl
   have r3:=hrow 3 _ rfl
   have r4:=hrow 4 _ rfl
   rw [Go.WideShapes.add_plain] at r0 r1 r2 r3 r4
   subst e1 e3 e4
   clear hrow g0 g1 g2 g3 g4 Hys Hrow Hcu Hyl
   simp only [Nat.zero_add] at r0 r1 r2 r3 r4
   have HR:Hid (∀ V,Chg Nob wr V→V.cell? ⟨g,0,none⟩=some (.bool y0)∧V.cell? ⟨g,1,none⟩=some (.bool !y0)∧V.cell? ⟨g,2,none⟩=some (.bool y2)∧V.cell? ⟨g,3,none⟩=some (.bool (y0&&y2))∧V.cell? ⟨g,4,none⟩=some (.bool (y0 || y2))):=(show ∀ V,Chg Nob wr V→_ from fun V h=>⟨h.cell' r0 (fun e=>e),h.cell' r1 (fun e=>e),h.cell' r2 (fun e=>e),h.cell' r3 (fun e=>e),h.cell' r4 (fun e=>e)⟩)
   clear r0 r1 r2 r3 r4 HF Hta Htb Hnm HP HQ HS HX1 HX2 HX Hb1 Hb2 Hb3 HlU HU Hcw Hck Hsx Hx Hs1 Hs2 hl4 hl hcn hnp hnl hlt hi
   go_upto_region 17 with fail
   obtain ⟨r0,r1,r2,r3,r4⟩:=HR.out wr.drew (Chg.refl Nob wr).drew
   have Hd:Hid (y0=y0):=Lib.hid rfl
   rcases y0 with _ | _ <;> rcases y2 with _ | _ <;> (
    refine wp_region_free (fun _=>true) (fun w'=>w'.cell? ⟨g,0,none⟩=some (.bool _)∧w'.cell? ⟨g,1,none⟩=some (.bool _)∧w'.cell? ⟨g,2,none⟩=some (.bool _)∧w'.cell? ⟨g,3,none⟩=some (.bool _)∧w'.cell? ⟨g,4,none⟩=some (.bool _)) (by kernel_rfl) ⟨r0,r1,r2,r3,r4⟩ (fun hHeld=>?_)
    refine tkG 0 hHeld ?_
    refine tkG 1 hHeld ?_
    refine tkG 2 hHeld ?_
    refine tkG 3 hHeld ?_
    refine tkG 4 hHeld ?_
    refine tkG 5 hHeld ?_
    refine tkG 6 hHeld ?_
    refine tkG 7 hHeld ?_
    refine tkG 8 hHeld ?_
    refine tkG 9 hHeld ?_
    refine tkG 10 hHeld ?_
    refine tkG 11 hHeld ?_
    refine tkG 12 hHeld ?_
    refine tkG 13 hHeld ?_
    refine tkG 14 hHeld ?_
    first | (have h:Hid ((false:Bool)=false):=Hd;clear h;refine tkN 15 hHeld ?_) | refine tkG 15 hHeld ?_
    first | (have h:Hid ((false:Bool)=false):=Hd;clear h;refine tkN 16 hHeld ?_) | refine tkG 16 hHeld ?_
    first | (have h:Hid ((false:Bool)=false):=Hd;clear h;refine tkN 17 hHeld ?_) | refine tkG 17 hHeld ?_
    refine tkG 18 hHeld ?_
    refine tkG 19 hHeld ?_
    refine tkG 20 hHeld ?_
    refine tkG 21 hHeld ?_
    refine tkG 22 hHeld ?_
    refine tkG 23 hHeld ?_
    refine tkG 24 hHeld ?_
    refine tkG 25 hHeld ?_
    refine tkG 26 hHeld ?_
    refine tkG 27 hHeld ?_
    refine tkG 28 hHeld ?_
    first | (have h:Hid ((true:Bool)=true):=Hd;clear h;refine tkN 29 hHeld ?_) | refine tkG 29 hHeld ?_
    first | (have h:Hid ((true:Bool)=true):=Hd;clear h;refine tkN 30 hHeld ?_) | refine tkG 30 hHeld ?_
    first | (have h:Hid ((true:Bool)=true):=Hd;clear h;refine tkN 31 hHeld ?_) | refine tkG 31 hHeld ?_
    refine tkG 32 hHeld ?_
    refine tkG 33 hHeld ?_
    refine tkG 34 hHeld ?_
    refine tkG 35 hHeld ?_
    refine rdG 36 fun K hK=>?_
    go_simp
    (with_reducible refine (aknown_any _).mono ?_)
    rintro e w9 ⟨rfl,hc9⟩
    have hR:=HR.out w9 (Chg.trans1 (Chg.refl Nob wr).drew hc9)
    refine hK.out _ _ (fun _=>hR) ?_
    clear hK K
    try simp only [Act.put]
    refine tkG 37 hR ?_
    refine tkG 38 hR ?_
    refine wpAnyG_done (by kernel_rfl) ?_ _
    go_simp
    clear hHeld r0 r1 r2 r3 r4 hR
    have H9:Hid (Chg Nob w w9):=Lib.hid (Hwr.out.trans1 (Chg.trans1 (Chg.refl Nob wr).drew hc9))
    clear hc9
    go_wp2_with fail
    go_ret
    exact ⟨rfl,H9.out⟩)
end Go.Proofs.YtkgfdgfhpdhhaaaGreat
