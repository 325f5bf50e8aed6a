/- Parts of the walks and of the plain theory, the first: alternate.Accepts: what is wrong, or whether the word is accepted. Conditions: the automaton and the word lie in the world, they are of no bulk beyond bounds. -/
import Derived.Test.YtkgfdgfhpdhhaaaGreatT13
import Derived.Laws.EntriesVeiled
import Derived.Test.YtkgfdgfhpdhhaaaGreatT33
import Derived.Deep.DeepCutAuto
namespace Go.Proofs.YtkgfdgfhpdhhaaaGreat
open Go.ChangeShapes Go.WideShapes Go.RowKit
attribute [local go_sem] Oper.semAt_some
set_option maxRecDepth 100000
set_option maxHeartbeats 8000000
def accCode (I:List (List Int)) (S:List Sti) (np nl:Nat):Int:=if checkAN I S≠0 then checkAN I S else lcheckN np nl
def accB (I:List (List Int)) (S:List Sti) (P L:List Int):Bool:=decide (accCode I S P.length L.length=0)&&accI I S (P++L) P.length
def AccPost (I:List (List Int)) (S:List Sti) (P L:List Int) (w:World) (e:Ending) (w':World):Prop:=e = .returned (.tuple #[.bool (accB I S P L),.int .i64 (accCode I S P.length L.length)])∧Chg Nob w w'
theorem lcheck_okz {np nl:Nat} (h:lcheckN np nl=0):0 < nl∧np+nl≤4096:=by
 unfold lcheckN at h
 split at h
 ·cases h
 ·omega
theorem URow.ownz {w:World} {B n:Nat} {v:Value} {M:List Int} (h:w.ownsRow B 53 1 v n (uvs M)) (hn:n=M.length) (h0:0 < n):∃ g c,v = .slice (some ⟨g,0,none⟩) M.length c∧URow w (some ⟨g,0,none⟩) M:=by
 obtain ⟨g,c,rfl,hc⟩:=ownsRow_some h h0
 subst hn
 exact ⟨g,c,rfl,fun j x hj=>⟨_,rfl,hc j _ (by unfold uvs;rw [List.getElem?_map,hj];rfl)⟩⟩
theorem cell_one' {w:World} {b:Nat} {x:Value} {t:TypeId} (h:w.heap[b]? = some (.cells #[x] t (0,0))):w.cell? ⟨b,0,none⟩=some x:=cell_row h 0 rfl
structure Beside (W:World) (wb lb nb:Nat) (ww:Option Addr) (cw:Nat) (M:List Int) (ap:Option Addr) (np cp:Nat) (as':Option Addr) (S:List Sti) (ai:Option Addr) (I:List (List Int)):Prop where
 word:W.cell? ⟨wb,0,none⟩=some (.slice ww M.length cw)
 las:W.cell? ⟨lb,0,none⟩=some (.slice ap np cp)
 next:W.cell? ⟨nb,0,none⟩=some (.func (.func 33) #[] #[.pointer (some ⟨wb,0,none⟩),.pointer (some ⟨lb,0,none⟩)])
 letters:URow W ww M
 states:SRow W as' S
 sets:LRow W ai I
theorem Beside.nob {W W':World} {wb lb nb:Nat} {ww:Option Addr} {cw:Nat} {M:List Int} {ap:Option Addr} {np cp:Nat} {as':Option Addr} {S:List Sti} {ai:Option Addr} {I:List (List Int)} (h:Beside W wb lb nb ww cw M ap np cp as' S ai I) (hc:Chg Nob W W'):Beside W' wb lb nb ww cw M ap np cp as' S ai I :=
 ⟨hc.cell' h.word (fun e=>e),hc.cell' h.las (fun e=>e),hc.cell' h.next (fun e=>e),h.letters.nob hc,h.states.nob hc,h.sets.nob hc⟩
theorem Beside.acc {W:World} {wb lb nb:Nat} {ww:Option Addr} {cw:Nat} {M:List Int} {ap:Option Addr} {np cp:Nat} {as':Option Addr} {S:List Sti} {ai:Option Addr} {I:List (List Int)} (h:Beside W wb lb nb ww cw M ap np cp as' S ai I) {ib i:Nat} (hi:W.cell? ⟨ib,0,none⟩=some (.int .i64 (i:Int))):AccW W wb lb nb ib ww cw M ap np cp i :=
 ⟨h.word,h.las,h.next,hi,h.letters⟩
section
variable {w : World} {ai as' ap al : Option Addr} {ci cs cp cl : Nat} {I : List (List Int)} {S : List Sti} {P L : List Int}
theorem accepts_any (hI:I.length≤2000000) (hS:S.length≤2000000) (h:LRow w ai I) (k:SRow w as' S) (hl:P.length+L.length≤4000000) (hP:URow w ap P) (hL:URow w al L) (hnp:ap=none→cp=0) (hnl:al=none→cl=0) :
 Calls Tryz.prog 12 #[.agg #[.slice ai I.length ci,.slice as' S.length cs],.agg #[.slice ap P.length cp,.slice al L.length cl]] w (AccPost I S P L w):=by
 obtain ⟨X,hX,hcX,hb0,hb1,hsX⟩:∃ X,X=(w.alloc (.cells #[.slice ai I.length ci,.slice as' S.length cs] 38)).alloc (.cells #[.slice ap P.length cp,.slice al L.length cl] 28)∧Chg Nob w X∧X.heap[w.heap.size]? = some (.cells #[.slice ai I.length ci,.slice as' S.length cs] 38 (0,0))∧X.heap[w.heap.size+1]? = some (.cells #[.slice ap P.length cp,.slice al L.length cl] 28 (0,0))∧X.heap.size=w.heap.size+2:=by
  have h1:=heap_alloc_new (w.alloc (.cells #[.slice ai I.length ci,.slice as' S.length cs] 38)) (.cells #[.slice ap P.length cp,.slice al L.length cl] 28)
  rw [World.size_alloc] at h1
  exact ⟨_,rfl,((Chg.refl _ _).alloc _).alloc _,((Chg.refl Nob _).alloc _).at (heap_alloc_new w _) (fun e=>e),h1,by rw [World.size_alloc,World.size_alloc]⟩
 obtain ⟨c0,c1,_⟩:=cell_two hb0
 obtain ⟨d0,d1,_⟩:=cell_two hb1
 have HcX:=Lib.hid hcX
 have HI:=Lib.hid (h.nob hcX)
 have HS:=Lib.hid (k.nob hcX)
 have HP:=Lib.hid (hP.nob hcX)
 have HL:=Lib.hid (hL.nob hcX)
 have HB:Hid (∀ W,Chg Nob X W→(W.cell? ⟨w.heap.size,0,none⟩=some (.slice ai I.length ci)∧W.cell? ⟨w.heap.size,1,none⟩=some (.slice as' S.length cs))∧W.cell? ⟨w.heap.size+1,0,none⟩=some (.slice ap P.length cp)∧W.cell? ⟨w.heap.size+1,1,none⟩=some (.slice al L.length cl)):=(show ∀ W,Chg Nob X W→(_∧_)∧_∧_ from fun W hW=>⟨⟨hW.cell' c0 (fun e=>e),hW.cell' c1 (fun e=>e)⟩,hW.cell' d0 (fun e=>e),hW.cell' d1 (fun e=>e)⟩)
 have hpc:Calls Tryz.prog 23 #[.agg #[.slice ai I.length ci,.slice as' S.length cs]] X fun e w'=>e = .returned (.int .i64 (checkAN I S))∧Chg Nob X w':=acheck_any hI hS HI.out HS.out
 have HsX:=Lib.hid hsX
 rw [hX] at c0 c1 d0 d1
 obtain ⟨code,hcode⟩:∃ code,code=checkAN I S:=⟨_,rfl⟩
 rw [← hcode] at hpc
 have Hcode:=Lib.hid hcode
 clear h k hb0 hb1 hcX hsX hP hL hcode
 go_enter Tryz.func12,Tryz.ntmps12
 go_wp2_with fail
 rw [← hX]
 clear hX c0 c1 d0 d1
 (with_reducible refine hpc.mono ?_)
 clear hpc
 rintro e w1 ⟨rfl,hc1⟩
 have Hc1:=Lib.hid hc1
 clear hc1
 obtain ⟨⟨c0,c1⟩,d0,d1⟩:=HB.out w1 Hc1.out
 cases h0:(code==0) with
 | false =>
   have hne:(code != 0)=true:=by rw [bne,h0];rfl
   have Hr:Hid (accCode I S P.length L.length=code∧accB I S P L=false):=(show _∧_ by
    have hn:checkAN I S≠0:=by rw [← Hcode.out];exact beq_eq_false_iff_ne.1 h0
    have h1:accCode I S P.length L.length=code:=by unfold accCode;rw [if_pos hn,Hcode.out]
    refine ⟨h1,?_⟩
    unfold accB
    rw [h1,decide_eq_false (beq_eq_false_iff_ne.1 h0)];rfl)
   go_wp2_with fail
   refine bodyPost_ret (results_tmp2 rfl _ _ _) rfl ?_
   exact ⟨by rw [Hr.out.1,Hr.out.2];rfl,HcX.out.trans1 Hc1.out⟩
 | true =>
   have hne:(code != 0)=false:=by rw [bne,h0];rfl
   have Hck:Hid (checkAN I S=0):=(show checkAN I S=0 by rw [← Hcode.out];exact beq_iff_eq.1 h0)
   have hpl:Calls Tryz.prog 31 #[.agg #[.slice ap P.length cp,.slice al L.length cl]] w1 fun e w'=>e = .returned (.int .i64 (lcheckN P.length L.length))∧Chg Nob w1 w':=lcheckb_any P.length L.length hl
   obtain ⟨lc,hlc⟩:∃ lc,lc=lcheckN P.length L.length:=⟨_,rfl⟩
   rw [← hlc] at hpl
   have Hlc:=Lib.hid hlc
   clear hlc Hcode
   go_wp2_with fail
   (with_reducible refine hpl.mono ?_)
   clear hpl c0 c1 d0 d1
   rintro e w2 ⟨rfl,hc2⟩
   have Hc2:Hid (Chg Nob X w2):=Lib.hid (Hc1.out.trans1 hc2)
   clear hc2 Hc1
   obtain ⟨⟨c0,c1⟩,d0,d1⟩:=HB.out w2 Hc2.out
   have Hac:Hid (accCode I S P.length L.length=lc):=(show accCode I S P.length L.length=lc by unfold accCode;rw [if_neg (fun h=>h Hck.out),Hlc.out])
   cases h1:(lc==0) with
   | false =>
     have hne1:(lc != 0)=true:=by rw [bne,h1];rfl
     have Hr:Hid (accB I S P L=false):=(show accB I S P L=false by unfold accB;rw [Hac.out,decide_eq_false (beq_eq_false_iff_ne.1 h1)];rfl)
     go_wp2_with fail
     refine bodyPost_ret (results_tmp2 rfl _ _ _) rfl ?_
     exact ⟨by rw [Hac.out,Hr.out];rfl,HcX.out.trans1 Hc2.out⟩
   | true =>
     have hne1:(lc != 0)=false:=by rw [bne,h1];rfl
     obtain ⟨hl0,hl4⟩:=lcheck_okz (np:=P.length) (nl:=L.length) (by rw [← Hlc.out];exact beq_iff_eq.1 h1)
     have hfine:fineA I S:=by
      have:=Hck.out
      unfold checkAN at this
      by_cases hf:fineA I S
      ·exact hf
      ·rw [if_neg hf] at this;cases this
     have Hfine:=Lib.hid hfine
     have Hr:Hid (accB I S P L=accI I S (P++L) P.length):=(show accB I S P L=_ by unfold accB;rw [Hac.out,decide_eq_true (beq_iff_eq.1 h1)];rfl)
     have hs4:=hfine.1
     obtain ⟨C,hC,hcC,hbC,hsC⟩:=box_cells w2 #[.slice ap P.length cp,.slice al L.length cl] 26
     have hpk:=concat_any (c:=2) (w:=C) (by omega) hl0 ((HP.out.nob Hc2.out).nob hcC) ((HL.out.nob Hc2.out).nob hcC) hnp hnl hbC
     have HC:=Lib.hid (Hc2.out.trans1 hcC)
     clear hfine hbC hsC hcC
     go_wp2_with fail
     rw [← hC]
     clear hC c0 c1 d0 d1
     (with_reducible refine hpk.mono ?_)
     clear hpk
     rintro e w3 ⟨hc3,v,rfl,hown⟩
     have hMl:(P++L).length=P.length+L.length:=List.length_append
     obtain ⟨gw,cw,rfl,hM⟩:=URow.ownz hown hMl.symm (by omega)
     have Hc3:Hid (Chg Nob X w3):=Lib.hid (HC.out.trans1 hc3)
     clear hown hc3 HC Hc2
     obtain ⟨M,hMe⟩:∃ M,M=P++L:=⟨_,rfl⟩
     rw [← hMe] at hM hMl Hr ⊢
     obtain ⟨Y1,hY1,hcY1,hbY1,hsY1⟩:=box_cells w3 #[.slice (some ⟨gw,0,none⟩) M.length cw] 26
     obtain ⟨Y,hY,hcY,hbY,hsY⟩:=box_cells Y1 #[.func (.func 33) #[] #[.pointer (some ⟨w3.heap.size,0,none⟩),.pointer (some ⟨w.heap.size+1,0,none⟩)]] 65
     obtain ⟨rcs,hrs,hmk⟩:=make66 S.length (by omega) Y
     obtain ⟨Z1,hZ1,hcZ1,hbZ1,hsZ1⟩:=box_cells Y rcs 34
     obtain ⟨Z,hZ,hcZ,hbZ,hsZ⟩:=box_cells Z1 #[.slice (some ⟨Y.heap.size,0,none⟩) S.length S.length] 66
     have hXY:=(Hc3.out.trans1 hcY1).trans1 hcY
     have HB0:Hid (Beside Y w3.heap.size (w.heap.size+1) Y1.heap.size (some ⟨gw,0,none⟩) cw M ap P.length cp as' S ai I):=(show Beside Y _ _ _ _ _ _ _ _ _ _ _ _ _ from
      ⟨hcY.cell' (cell_one' hbY1) (fun e=>e),(HB.out Y hXY).2.1,cell_one' hbY,(hM.nob hcY1).nob hcY,HS.out.nob hXY,HI.out.nob hXY⟩)
     have HL0:Hid (RunsL Z Y Z1.heap.size Y.heap.size S.length [] [] M.length):=(show RunsL Z Y _ _ _ _ _ _ from
      ⟨hcZ1.trans1 hcZ,Nat.le_refl _,by omega,cell_one' hbZ,⟨rcs,hcZ.at hbZ1 (fun e=>e),hrs,fun k g hk=>by simp at hk⟩,rfl,fun k g r hk=>by simp at hk⟩)
     have HXY:=Lib.hid hXY
     have HXZ:=Lib.hid ((hXY.trans1 hcZ1).trans1 hcZ)
     have Hl0:Hid (P.length < M.length∧M.length≤4096):=(show _∧_ by omega)
     have HsY1:=Lib.hid hsY1
     have HsY:=Lib.hid hsY
     have HsZ1:=Lib.hid hsZ1
     have HMe:=Lib.hid hMe
     have hns:S.length≤4096:=hs4
     clear hM hbY1 hbY hbZ1 hbZ hcY1 hcY hcZ1 hcZ hMl hMe hl0 hl4 hs4 hl hnp hnl hsY1 hsY hsZ1 hsZ
     go_upto_region 8 with fail
     rw [← hY1]
     clear hY1
     go_upto_region 9 with fail
     rw [← hY]
     clear hY
     obtain ⟨⟨c0,c1⟩,d0,d1⟩:=HB.out Y HXY.out
     go_upto_region 10 with fail
     rw [← hZ1,← hZ]
     clear c0 c1 d0 d1 hmk hXY hZ1 hZ
     obtain ⟨⟨c0,c1⟩,d0,d1⟩:=HB.out Z HXZ.out
     go_wp2_with fail
     have HlcZ:Hid (lc=0):=Lib.hid (beq_iff_eq.1 h1)
     clear c0 c1 d0 d1 HsX HXZ h0 hne h1 hne1
     rw [HsZ1.out] at HL0
     clear HsZ1
     obtain ⟨np,hnpe⟩:∃ np,np=P.length:=⟨_,rfl⟩
     rw [← hnpe] at HB0 Hl0
     have Hnpe:=Lib.hid hnpe
     clear hnpe
     have HgrY:Hid (Y.heap.size≤Y.heap.size):=Nat.le_refl _
     generalize hq2:Y.heap.size+1=rb at *
     generalize hq1:Y.heap.size=gr at *
     generalize hq3:Y1.heap.size=nb at *
     generalize hq4:w3.heap.size=wb at *
     have Hq1:=Lib.hid hq1
     clear hq1 hq2 hq3 hq4 hrs
     have hM4:M.length≤4096:=Hl0.out.2
     go_loopw [40] (fun iv wr=>∃ (i:Nat) (gs:List Nat),iv = .int .i64 (i:Int)∧i≤S.length∧Hid (RunsL wr Y rb gr S.length gs (rowsI S M np i) M.length)) (fun iv _=>S.length - (intOf iv).toNat)
     case atStart=>exact ⟨0,[],rfl,Nat.zero_le _,HL0⟩
     case round =>
      obtain ⟨i,gs,rfl,hi,HL⟩:=hrel
      obtain ⟨wr0,hwr0⟩:∃ W,W=wr:=⟨_,rfl⟩
      subst hwr0
      have HBw:=Lib.hid (HB0.out.nob HL.out.chg)
      by_cases hlt:i < S.length
      ·obtain ⟨s,hs⟩:∃ s,S[i]? = some s:=⟨_,List.getElem?_eq_getElem hlt⟩
       obtain ⟨b,o,am,cm,rfl,hf,hmv,hml,hmr⟩:=HBw.out.states i s hs
       have hsd:S.getD i s0=s:=by rw [List.getD_eq_getElem?_getD,hs];rfl
       have Hsd:=Lib.hid hsd
       have hii:(i:Int) < (S.length:Int):=by omega
       have hi0:(0:Int)≤(i:Int):=by omega
       obtain ⟨R,hR⟩:∃ R,R=rowsI S M np i:=⟨_,rfl⟩
       have Hrl:Hid (R.length=i):=(show R.length=i by rw [hR,rowsI_length])
       rw [← hR] at HL
       have HR:=Lib.hid hR
       clear hR
       have HrbW:Hid (rb < wr0.heap.size):=Lib.hid (World.block_lt_of_cell? _ _ HL.out.box)
       have HmrA:Hid (∀ V,Chg Nob Y V→MRow V am s.moves):=(show ∀ V,Chg Nob Y V→MRow V am s.moves from fun V hV=>by
        obtain ⟨b',o',am',cm',e1,_,e2,_,e3⟩:=HB0.out.states i s hs
        cases e1
        have e4:=HL.out.chg.cell' e2 (fun e=>e)
        rw [hmv] at e4
        cases e4
        exact e3.nob hV)
       have HP2:Hid (stateP s i):=(show stateP s i by have:=Hfine.out.2.2.2.1 i hlt;rwa [Hsd.out] at this)
       obtain ⟨Q1,hQ1,hcQ1,hbQ1,hsQ1⟩:=box_cells wr0 #[.bool s.fin,.slice am s.moves.length cm] 69
       obtain ⟨q0,q1,_⟩:=cell_two hbQ1
       have hmk2:=make116 M.length (by have:=Hl0.out.2;omega) Q1
       obtain ⟨Q2,hQ2,hcQ2,hbQ2,hsQ2⟩:=box_cells Q1 (bcells (List.replicate M.length false)) 4
       have hword:=(hcQ1.cell' HBw.out.word (fun e=>e))
       have HQ12:=Lib.hid hcQ2
       have HQ2:=Lib.hid (hcQ1.trans1 hcQ2)
       have Hst:Hid (∀ V,Chg (At1 Q1.heap.size) Q2 V→V.cell? ⟨wr0.heap.size,0,none⟩=some (.bool s.fin)∧V.cell? ⟨wr0.heap.size,1,none⟩=some (.slice am s.moves.length cm)):=(show ∀ V,Chg (At1 Q1.heap.size) Q2 V→_∧_ from fun V hV=>⟨hV.cell' (hcQ2.cell' q0 (fun e=>e)) (fun e=>by have e:wr0.heap.size=Q1.heap.size:=e;omega),hV.cell' (hcQ2.cell' q1 (fun e=>e)) (fun e=>by have e:wr0.heap.size=Q1.heap.size:=e;omega)⟩)
       have Hmr:=Lib.hid hmr
       have Hb0:Hid (BBlk Q2 Q1.heap.size (List.replicate M.length false)):=hbQ2
       have HszQ:Hid (Q1.heap.size=wr0.heap.size+1):=hsQ1
       clear hbQ1 hbQ2 hcQ1 hcQ2 hsQ1 hsQ2 hs hsd hmr
       go_upto_region 13 with fail
       rw [← hQ1]
       clear hQ1
       go_upto_region 14 with fail
       rw [← hQ2]
       clear hQ2 hmk2 hf hmv q0 q1 hword
       go_wp2_with fail
       go_loopw [50] (fun jv W=>∃ (j:Nat) (l:List Bool),jv = .int .i64 (j:Int)∧j≤M.length∧Hid (l.length=M.length∧∀ q,q < j→l[q]? = some (!s.fin))∧Hid (BBlk W Q1.heap.size l)∧Hid (Chg (At1 Q1.heap.size) Q2 W)) (fun jv _=>M.length - (intOf jv).toNat)
       case atStart=>exact ⟨0,_,rfl,Nat.zero_le _,(show _∧_ from ⟨List.length_replicate,fun q hq=>absurd hq (Nat.not_lt_zero q)⟩),Hb0,Chg.refl _ _⟩
       case round =>
        obtain ⟨j,l,rfl,hj,Hl,Hb,Hc⟩:=hrel
        by_cases hjl:j < M.length
        ·have hji:(j:Int) < (M.length:Int):=by omega
         have hj0:(0:Int)≤(j:Int):=by omega
         obtain ⟨t0,_⟩:=Hst.out _ Hc.out
         have e0:=Hb.out.cell (j:=j) (x:=l.getD j false) (getDb_some (by have:=Hl.out.1;omega))
         have f0:=Hb.out.free j
         have Hl2:Hid ((l.set j (!s.fin)).length=M.length∧∀ q,q < j+1→(l.set j (!s.fin))[q]? = some (!s.fin)):=(show _∧_ from ⟨by rw [List.length_set];exact Hl.out.1,fun q hq=>by
          by_cases e:q=j
          ·subst e;rw [List.getElem?_set_self (by have:=Hl.out.1;omega)]
          ·rw [List.getElem?_set_ne (Ne.symm e)];exact Hl.out.2 q (by omega)⟩)
         have Hb2:=Lib.hid (Hb.out.set j (!s.fin))
         have Hc2:Hid (Chg (At1 Q1.heap.size) Q2 (wr.setCell ⟨Q1.heap.size,j,none⟩ (.bool (!s.fin)))):=(show Chg (At1 Q1.heap.size) Q2 _ from Hc.out.setCell (p:=⟨Q1.heap.size,j,none⟩) (fun _=>rfl) _)
         go_wp2_with fail
         go_roundw
         case rel=>exact ⟨j+1,_,by go_num,by omega,Hl2,Hb2,Hc2⟩
         case measure=>simp [intOf];omega
        ·obtain rfl:j=M.length:=by omega
         have hle:l=List.replicate M.length (!s.fin):=by
          refine List.ext_getElem? (fun q=>?_)
          rcases Nat.lt_or_ge q M.length with hq | hq
          ·rw [Hl.out.2 q hq,List.getElem?_replicate,if_pos hq]
          ·rw [List.getElem?_eq_none_iff.2 (by have:=Hl.out.1;omega),List.getElem?_eq_none_iff.2 (by rw [List.length_replicate];omega)]
         have HL3:=Lib.hid (HL.out.nob ((HQ2.out).trans Hc.out (fun q hq e=>by have e:q=Q1.heap.size:=e;have:=HszQ.out;omega)))
         rw [hle] at Hb
         have hpush:=HL3.out.push (by rw [Hrl.out];exact hlt) Hb.out (by have:=World.block_lt_of_cell? _ _ HL.out.box;have:=HszQ.out;simp only at *;omega) (by rw [List.length_replicate])
         rw [Hrl.out] at hpush
         obtain ⟨⟨pv,p0⟩,pf,hL4⟩:=hpush
         have rbx:=HL3.out.box
         obtain ⟨V0,hV0⟩:∃ V0,V0=wr.setCell ⟨gr,i,none⟩ (.slice (some ⟨Q1.heap.size,0,none⟩) M.length M.length):=⟨_,rfl⟩
         rw [← hV0] at hL4
         have HL4:Hid (RunsL V0 Y rb gr S.length (gs++[Q1.heap.size]) (R++[List.replicate M.length (!s.fin)]) M.length):=hL4
         have HsV:Hid (V0.cell? ⟨wr0.heap.size,1,none⟩=some (.slice am s.moves.length cm)):=(show V0.cell? _=_ by
          have h1:=(Hst.out _ Hc.out).2
          have hset:Chg (At1 gr) wr V0:=hV0 ▸ (Chg.refl (At1 gr) wr).setCell (p:=⟨gr,i,none⟩) (fun _=>rfl) _
          exact hset.cell' h1 (fun e=>by have e:wr0.heap.size=gr:=e;have:=HrbW.out;have:=HL.out.order;omega))
         have Hfr:Hid (∀ (k g':Nat),gs[k]? = some g'→g'≠Q1.heap.size):=(show ∀ (k g':Nat),gs[k]? = some g'→g'≠Q1.heap.size from fun k g' hk e=>by
          have hk2:k < R.length:=by rw [← HL.out.len];exact (List.getElem?_eq_some_iff.1 hk).1
          have h2:=(HL.out.row k g' _ hk (List.getElem?_eq_getElem hk2)).1.lt
          have:=HszQ.out
          omega)
         have HgR:Hid (gr < wr0.heap.size∧wr0.heap.size < Q1.heap.size):=(show _∧_ by have:=HrbW.out;have:=HL.out.order;have:=HszQ.out;omega)
         clear hL4 HL0 Hl hle hjl hj HL3 Hst Hc Hb Hb0 HQ2 HQ12
         go_wp2_with fail
         rw [← hV0]
         clear hV0 p0 pf rbx
         generalize hgq:Q1.heap.size=g at *
         generalize hsb:wr0.heap.size=sb at *
         clear hgq hsb HszQ HrbW
         obtain ⟨T0,hT0⟩:∃ T0,T0=rowI R s M np:=⟨_,rfl⟩
         have HT0:=Lib.hid hT0
         clear hT0
         go_loopw [64] (fun rv W=>∃ (r:Nat) (l:List Bool),rv = .int .i64 (r:Int)∧r≤2∧Hid (timesA R s.moves M np (2 - r) l=T0)∧Hid (RunsL W Y rb gr S.length (gs++[g]) (R++[l]) M.length)∧Hid (W.cell? ⟨sb,1,none⟩=some (.slice am s.moves.length cm))) (fun rv _=>2 - (intOf rv).toNat)
         case atStart=>exact ⟨0,_,rfl,by omega,(show timesA R s.moves M np 2 _=T0 from HT0.out.symm),HL4,HsV⟩
         case round =>
          obtain ⟨r,l,rfl,hr2,Ht,HLr,Hsr⟩:=hrel
          by_cases hrl:r < 2
          ·have hri:(r:Int) < 2:=by omega
           have hword:=(HB0.out.nob HLr.out.chg).word
           obtain ⟨D,hD,hcD,hbD,hsD⟩:=box_cells wr #[.int .i64 ((M.length:Int) - 1)] 3
           obtain ⟨T1,hT1⟩:∃ T1,T1=sweepA R s.moves M np M.length l:=⟨_,rfl⟩
           have Ht1:Hid (timesA R s.moves M np (2 - (r+1)) T1=T0):=(show _=T0 by
            have h1:=Ht.out
            rw [show 2 - r=(2 - (r+1))+1 by omega,timesA,← hT1] at h1
            exact h1)
           have HLd:=Lib.hid (HLr.out.nob hcD)
           have Hsd2:=Lib.hid (hcD.cell' Hsr.out (fun e=>e))
           have Hbd:Hid (D.heap[wr.heap.size]? = some (.cells #[.int .i64 ((M.length:Int) - 1)] 3 (0,0))):=hbD
           have HT1:=Lib.hid hT1.symm
           clear hT1 hbD hcD Ht hsD
           go_wp2_with fail
           rw [← hD]
           clear hD hword
           go_loopw [15] (fun pv W=>∃ (ib q:Nat) (l:List Bool),pv = .pointer (some ⟨ib,0,none⟩)∧q≤M.length∧Hid (W.heap[ib]? = some (.cells #[.int .i64 ((q:Int) - 1)] 3 (0,0)))∧Hid (sweepA R s.moves M np q l=T1)∧Hid (RunsL W Y rb gr S.length (gs++[g]) (R++[l]) M.length)∧Hid (W.cell? ⟨sb,1,none⟩=some (.slice am s.moves.length cm))) (fun pv W=>boxN pv W)
           case atStart=>exact ⟨_,M.length,l,rfl,Nat.le_refl _,Hbd,HT1,HLd,Hsd2⟩
           case round =>
            obtain ⟨ib,q,l,rfl,hq,Hib,Hsw,HLq,Hsq⟩:=hrel
            cases q with
            | zero =>
              have hT:l=T1:=Hsw.out
              have hc0:=cell_one' Hib.out
              have hz:((0:Nat):Int) - 1 = -1:=rfl
              rw [hz] at hc0
              rw [hT] at HLq
              clear hT hz
              go_wp2_with fail
              go_roundw
              case rel=>exact ⟨r+1,T1,by go_num,by omega,Ht1,HLq,Hsq⟩
              case measure=>simp [intOf];omega
            | succ j =>
              have hc0:=cell_one' Hib.out
              have hz:((j+1:Nat):Int) - 1=(j:Int):=by omega
              rw [hz] at hc0
              have hj0:(0:Int)≤(j:Int):=by omega
              have hjl:(j:Int) < (M.length:Int):=by omega
              have HLv0:Hid (gs.length=R.length):=(show gs.length=R.length by have:=HLq.out.len;simpa using this)
              have HAq:Hid (AccW wr wb (w.heap.size+1) nb ib (some ⟨gw,0,none⟩) cw M ap np cp j):=Lib.hid ((HB0.out.nob HLq.out.chg).acc hc0)
              have hsq:=Hsq.out
              have HScut:Hid (∀ w',Chg Nob wr w'→w'.cell? ⟨ib,0,none⟩=some (.int .i64 (j:Int))∧w'.cell? ⟨sb,1,none⟩=some (.slice am s.moves.length cm)):=Lib.hid (fun w' h=>⟨h.cell' hc0 (fun e=>e),h.cell' hsq (fun e=>e)⟩)
              have Hp:Hid (∀ V,Chg Nob wr V→Calls Tryz.prog 34 #[.slice am s.moves.length cm,.func (.func 35) #[] #[.pointer (some ⟨wb,0,none⟩),.pointer (some ⟨ib,0,none⟩),.pointer (some ⟨rb,0,none⟩),.pointer (some ⟨nb,0,none⟩)]] V fun e w'=>e = .returned (.bool (s.moves.any fun m=>hasI m.yes m.no (M.getD j 0)&&allR (R++[l]) m.to (nextN np M.length j)))∧Chg Nob V w') :=
               (show ∀ V,Chg Nob wr V→Calls Tryz.prog 34 #[.slice am s.moves.length cm,.func (.func 35) #[] #[.pointer (some ⟨wb,0,none⟩),.pointer (some ⟨ib,0,none⟩),.pointer (some ⟨rb,0,none⟩),.pointer (some ⟨nb,0,none⟩)]] V fun e w'=>e = .returned (.bool (s.moves.any fun m=>hasI m.yes m.no (M.getD j 0)&&allR (R++[l]) m.to (nextN np M.length j)))∧Chg Nob V w' from fun V hV=>by
                have hmrV:MRow V am s.moves:=HmrA.out V (HLq.out.chg.trans1 hV)
                refine contains_moves (c:=cm) (k:=35) (caps:=#[.pointer (some ⟨wb,0,none⟩),.pointer (some ⟨ib,0,none⟩),.pointer (some ⟨rb,0,none⟩),.pointer (some ⟨nb,0,none⟩)]) (s:=fun m=>hasI m.yes m.no (M.getD j 0)&&allR (R++[l]) m.to (nextN np M.length j)) hml hmrV (enters_of Tryz.func35 (by kernel_rfl) rfl) (fun k m hm W hW at' ct hto htl=>?_)
                refine amove_any (rows:=R++[l]) ((HLq.out.nob (hV.trans1 hW)).runs (by rw [List.length_append,Hrl.out];exact hlt)) (HAq.out.nob (hV.trans1 hW)) (by omega) (by omega) (by omega) Hl0.out.1 hto htl (fun x hx=>?_)
                have hk:k < s.moves.length:=(List.getElem?_eq_some_iff.1 hm).1
                have h1:=(HP2.out k hk).2
                rw [List.getD_eq_getElem?_getD,hm] at h1
                obtain ⟨jj,hjj,rfl⟩:=List.mem_iff_getElem.1 hx
                have h2:=h1 jj hjj
                have h3:m.to.getD jj 0=m.to[jj]:=by rw [List.getD_eq_getElem?_getD,List.getElem?_eq_getElem hjj];rfl
                unfold okAt at h2
                simp only [Option.getD_some] at h2
                rw [h3] at h2
                rw [List.length_append,Hrl.out]
                simp only [List.length_cons,List.length_nil]
                omega)
              clear hz
              go_wp2_with fail
              refine wp_region_free (fun i=>i != 7) (fun w'=>w'.cell? ⟨ib,0,none⟩=some (.int .i64 (j:Int))∧w'.cell? ⟨sb,1,none⟩=some (.slice am s.moves.length cm)) (by kernel_rfl) ⟨hc0,hsq⟩ (fun hHeld=>?_)
              refine tkG 0 hHeld ?_
              refine tkG 1 hHeld ?_
              refine tkG 2 hHeld ?_
              refine tkG 3 hHeld ?_
              refine tkG 4 hHeld ?_
              refine rdG 5 fun K hK=>?_
              go_simp
              (with_reducible refine (Hp.out _ (((Chg.refl Nob wr).drew))).mono ?_)
              rintro e v1 ⟨rfl,hc5⟩
              have Hv1:Hid (Chg Nob wr v1):=Lib.hid ((((Chg.refl Nob wr).drew)).trans1 hc5)
              clear hc5
              obtain ⟨x,hx⟩:∃ x,x=(s.moves.any fun m=>hasI m.yes m.no (M.getD j 0)&&allR (R++[l]) m.to (nextN np M.length j)):=⟨_,rfl⟩
              rw [← hx]
              have Hx:=Lib.hid hx
              clear hx
              refine hK.out _ _ (fun _=>HScut.out _ Hv1.out) ?_
              clear hK K
              try simp only [Act.put]
              refine tkG 6 (HScut.out _ Hv1.out) ?_
              refine rdG 7 fun K hK=>?_
              have HLv:=Lib.hid (HLq.out.nob Hv1.out)
              have hrow:=HLv.out.row i g l (by rw [← Hrl.out,← HLv0.out,List.getElem?_append_right (Nat.le_refl _),Nat.sub_self];rfl) (by rw [← Hrl.out,List.getElem?_append_right (Nat.le_refl _),Nat.sub_self];rfl)
              obtain ⟨hgb,_,hgl⟩:=hrow
              have k0:=hgb.cell (j:=j) (x:=l.getD j false) (getDb_some (by omega))
              have kf:=hgb.free j
              have HLw:=Lib.hid (HLv.out.put Hfr.out j x)
              have hset:Chg (At1 g) v1 (v1.setCell ⟨g,j,none⟩ (.bool x)):=(Chg.refl (At1 g) v1).setCell (p:=⟨g,j,none⟩) (fun _=>rfl) _
              have hne:ib≠g:=fun e=>by have h1:=Hv1.out.at Hib.out (fun e=>e);rw [e] at h1;have h2:v1.heap[g]? = some (.cells (bcells l) 4 (0,0)):=hgb;rw [h2] at h1;simp at h1
              have HV3:Hid ((v1.setCell ⟨g,j,none⟩ (.bool x)).cell? ⟨ib,0,none⟩=some (.int .i64 (j:Int))):=(show _=_ from hset.cell' (HScut.out _ Hv1.out).1 (fun e=>hne e))
              have HV4:Hid ((v1.setCell ⟨g,j,none⟩ (.bool x)).cell? ⟨sb,1,none⟩=some (.slice am s.moves.length cm)):=(show _=_ from hset.cell' (HScut.out _ Hv1.out).2 (fun e=>by have e:sb=g:=e;have:=HgR.out;omega))
              clear hset hne hgb hgl
              go_simp
              refine hK.out _ _ (fun h=>absurd h (by decide)) ?_
              clear hK K
              try simp only [Act.put]
              refine wpAnyG_done (by kernel_rfl) ?_ _
              go_simp
              clear hHeld k0 kf hc0 hsq
              have hK2:=HV3.out
              obtain ⟨V1,hV1⟩:∃ V1,V1=v1.setCell ⟨g,j,none⟩ (.bool x):=⟨_,rfl⟩
              rw [← hV1] at HLw HV3 HV4 hK2 ⊢
              have hvs:V1.heap.size=v1.heap.size:=by rw [hV1,World.size_setCell]
              have Hsw2:Hid (sweepA R s.moves M np j (l.set j x)=T1):=(show _=T1 by
               have h1:=Hsw.out
               rw [sweepA,updA,← Hx.out] at h1
               exact h1)
              obtain ⟨E,hE,hcE,hbE,_⟩:=box_cells V1 #[.int .i64 ((j:Int) - 1)] 3
              have HbE:=Lib.hid hbE
              have HLE:=Lib.hid (HLw.out.nob hcE)
              have HsE:=Lib.hid (hcE.cell' HV4.out (fun e=>e))
              have Hm1:=Lib.hid (boxN_eq (cell_one' hbE))
              have Hm2:Hid (boxN (.pointer (some ⟨ib,0,none⟩)) wr=j+1):=(show _=_ by rw [boxN_eq (cell_one' Hib.out)];omega)
              clear hV1 hbE hcE hvs
              go_wp2_with fail
              rw [← hE]
              go_roundw
              case rel=>exact ⟨_,j,_,rfl,by omega,HbE,Hsw2,HLE,HsE⟩
              case measure =>
               show boxN _ _ < boxN _ _
               rw [Hm1.out,Hm2.out]
               omega
          ·have hre:r=2:=by omega
           subst hre
           have HLf:Hid (RunsL wr Y rb gr S.length (gs++[g]) (rowsI S M np (i+1)) M.length):=(show RunsL wr Y rb gr S.length (gs++[g]) (rowsI S M np (i+1)) M.length by
            have h1:l=T0:=Ht.out
            rw [rowsI,← HR.out,Hsd.out,← HT0.out,← h1]
            exact HLr.out)
           go_wp2_with fail
           go_roundw
           case rel=>exact ⟨i+1,_,by go_num,by omega,HLf⟩
           case measure=>simp [intOf];omega
      ·obtain rfl:i=S.length:=by omega
       obtain ⟨⟨c0,c1⟩,d0,d1⟩:=HB.out wr0 (HXY.out.trans1 HL.out.chg)
       have hp:=contains_sets (c:=ci) (k:=40) (caps:=#[.pointer (some ⟨rb,0,none⟩)]) (s:=fun l=>allR (rowsI S M np S.length) l 0) hI HBw.out.sets (enters_of Tryz.func40 (by kernel_rfl) rfl) (fun k l hk W hW at' ct htr htl =>
        aall0_any (rows:=rowsI S M np S.length) ((HL.out.nob hW).runs (by rw [rowsI_length];exact Nat.le_refl _)) (by omega) (by have:=Hl0.out.1;omega) (by omega) htr htl (fun x hx=>by
         obtain ⟨jj,hjj,rfl⟩:=List.mem_iff_getElem.1 hx
         have h1:=Hfine.out.2.2.1 k (List.getElem?_eq_some_iff.1 hk).1
         rw [List.getD_eq_getElem?_getD,hk] at h1
         have h2:=h1 jj hjj
         unfold okAt at h2
         simp only [Option.getD_some] at h2
         rw [List.getD_eq_getElem?_getD,List.getElem?_eq_getElem hjj] at h2
         simp only [Option.getD_some] at h2
         rw [rowsI_length]
         omega))
       go_wp2_with fail
       (with_reducible refine hp.mono ?_)
       clear hp c0 c1 d0 d1
       rintro e w9 ⟨rfl,hc9⟩
       have Hfin:Hid (Chg Nob w w9):=Lib.hid ((HcX.out.trans1 (HXY.out.trans1 HL.out.chg)).trans1 hc9)
       clear hc9
       have Hlz:Hid (lc=0):=Lib.hid (HlcZ.out)
       go_wp2_with fail
       refine bodyPost_ret (results_tmp2 rfl _ _ _) rfl ?_
       exact ⟨by rw [Hr.out,Hac.out,Hlz.out,← Hnpe.out];rfl,Hfin.out⟩
end
end Go.Proofs.YtkgfdgfhpdhhaaaGreat
namespace Go.Proofs.YtkgfdgfhpdhhaaaGreat
open PL (stN atS FX)
section
variable {np n : Nat} {A B : List Bool}
theorem stN_soon (hnp:np < n) {p:Nat} (hp:p < n) (d:Nat):∃ d',d'≤n∧d'≤d∧stN np n d' p=stN np n d p:=by
 by_cases h:p+d < n
 ·exact ⟨d,by omega,Nat.le_refl _,rfl⟩
 ·-- behind the end
  have e1:stN np n (n - p) p=np:=by
   have h1:stN np n (n - p - 1) p=n - 1:=by rw [PL.stN_small (by omega)];omega
   have h2:=PL.stN_one (np:=np) (n:=n) (n - p - 1) p
   rw [h1,show n - p - 1+1=n - p by omega] at h2
   rw [h2]
   unfold nextN
   rw [if_pos (by omega)]
  have e2:stN np n d p=np+(d - (n - p)) % (n - np):=by
   have h1:=PL.stN_add (np:=np) (n:=n) (n - p) (d - (n - p)) p
   rw [show n - p+(d - (n - p))=d by omega,e1,PL.stN_mod hnp] at h1
   exact h1
  obtain ⟨r,hr⟩:∃ r,r=(d - (n - p)) % (n - np):=⟨_,rfl⟩
  have hrl:r < n - np:=by rw [hr];exact Nat.mod_lt _ (by omega)
  have hrd:r≤d - (n - p):=by rw [hr];exact Nat.mod_le _ _
  rw [← hr] at e2
  by_cases h3:p≤np+r
  ·exact ⟨np+r - p,by omega,by omega,by rw [PL.stN_small (by omega),e2];omega⟩
  ·refine ⟨n - p+r,by omega,by omega,?_⟩
   rw [PL.stN_add,e1,PL.stN_mod hnp,Nat.mod_eq_of_lt hrl,e2]
theorem walkR_iff (b:Bool):∀ (f p:Nat),walkR A B b np n f p=true↔(∃ d,d≤f∧atS np n p A d∧∀ j,j < d→atS np n p B j)∨(b=true∧∀ j,j < f→atS np n p B j)
 | 0,p=>by
   unfold walkR
   rw [Bool.or_eq_true]
   constructor
   ·rintro (h | h)
    ·exact Or.inl ⟨0,Nat.le_refl _,h,fun j hj=>absurd hj (Nat.not_lt_zero j)⟩
    ·exact Or.inr ⟨h,fun j hj=>absurd hj (Nat.not_lt_zero j)⟩
   ·rintro (⟨d,hd,ha,_⟩ | ⟨h,_⟩)
    ·obtain rfl:d=0:=by omega
     exact Or.inl ha
    ·exact Or.inr h
 | f+1,p=>by
   have ih:=walkR_iff b f (nextN np n p)
   have hA0:atS np n p A 0↔A.getD p false=true:=Iff.rfl
   have hB0:atS np n p B 0↔B.getD p false=true:=Iff.rfl
   have hs:∀ (Q:List Bool) (j:Nat),atS np n p Q (j+1)↔atS np n (nextN np n p) Q j:=fun Q j=>Iff.rfl
   have hw:walkR A B b np n (f+1) p=true↔(A.getD p false=true∨(B.getD p false=true∧walkR A B b np n f (nextN np n p)=true)):=by
    rw [walkR]
    cases A.getD p false <;> cases B.getD p false <;> simp
   rw [hw,ih]
   constructor
   ·rintro (h | ⟨hb,⟨d,hd,ha,hall⟩ | ⟨hbb,hall⟩⟩)
    ·exact Or.inl ⟨0,Nat.zero_le _,h,fun j hj=>absurd hj (Nat.not_lt_zero j)⟩
    ·refine Or.inl ⟨d+1,by omega,(hs A d).2 ha,fun j hj=>?_⟩
     cases j with
     | zero=>exact hb
     | succ j=>exact (hs B j).2 (hall j (by omega))
    ·refine Or.inr ⟨hbb,fun j hj=>?_⟩
     cases j with
     | zero=>exact hb
     | succ j=>exact (hs B j).2 (hall j (by omega))
   ·rintro (⟨d,hd,ha,hall⟩ | ⟨hbb,hall⟩)
    ·cases d with
     | zero=>exact Or.inl ha
     | succ d=>exact Or.inr ⟨hall 0 (by omega),Or.inl ⟨d,by omega,(hs A d).1 ha,fun j hj=>(hs B j).1 (hall (j+1) (by omega))⟩⟩
    ·exact Or.inr ⟨hall 0 (by omega),Or.inr ⟨hbb,fun j hj=>(hs B j).1 (hall (j+1) (by omega))⟩⟩
theorem walkR_fix (hnp:np < n) (b:Bool) {p:Nat} (hp:p < n):walkR A B b np n (n+1) p=(fixL np n A B b).getD p false:=by
 have h1:=walkR_iff (np:=np) (n:=n) (A:=A) (B:=B) b (n+1) p
 have h2:=PL.fixL_at (A:=A) (B:=B) hnp b hp
 have h3:((∃ d,d≤n+1∧atS np n p A d∧∀ j,j < d→atS np n p B j)∨(b=true∧∀ j,j < n+1→atS np n p B j))↔FX b (atS np n p A) (atS np n p B) 0:=by
  have hsoon:∀ (Q:List Bool) (d:Nat),∃ d',d'≤n∧d'≤d∧(atS np n p Q d'↔atS np n p Q d):=fun Q d=>by
   obtain ⟨d',a,c,e⟩:=stN_soon hnp hp d
   exact ⟨d',a,c,by unfold PL.atS;rw [e]⟩
  unfold PL.FX
  simp only [Nat.zero_add]
  constructor
  ·rintro (⟨d,_,ha,hall⟩ | ⟨hb,hall⟩)
   ·exact Or.inl ⟨d,ha,hall⟩
   ·refine Or.inr ⟨hb,fun j=>?_⟩
    obtain ⟨d',a,_,e⟩:=hsoon B j
    exact e.1 (hall d' (by omega))
  ·rintro (⟨d,ha,hall⟩ | ⟨hb,hall⟩)
   ·obtain ⟨d',a,c,e⟩:=hsoon A d
    exact Or.inl ⟨d',by omega,e.2 ha,fun j hj=>hall j (by omega)⟩
   ·exact Or.inr ⟨hb,fun j _=>hall j⟩
 have h4:walkR A B b np n (n+1) p=true↔(fixL np n A B b).getD p false=true:=by rw [h1,h3,h2]
 cases ha:walkR A B b np n (n+1) p <;> cases hb:(fixL np n A B b).getD p false
 ·rfl
 ·rw [ha,hb] at h4;exact (Bool.false_ne_true (h4.2 rfl)).elim
 ·rw [ha,hb] at h4;exact (Bool.false_ne_true (h4.1 rfl)).elim
 ·rfl
end
theorem any_split (h o a:Mvi→Bool) (x:Bool):∀ ms:List Mvi,ms.any (fun m=>h m&&(o m&&(!a m || x)))=(ms.any (fun m=>(h m&&o m)&&(a m==false)) || (ms.any (fun m=>(h m&&o m)&&(a m==true))&&x))
 | []=>by cases x <;> rfl
 | m::ms=>by
   rw [List.any_cons,List.any_cons,List.any_cons,any_split h o a x ms]
   cases h m <;> cases o m <;> cases a m <;> cases x <;> simp
theorem allR_split (R:List (List Bool)) (l:List Bool) (q n:Nat) (hR:R.length=n):∀ ks:List Int,(∀ k∈ks,0≤k∧k≤(n:Int))→allR (R++[l]) ks q=(othersR R ks n q&&(!(ks.any fun k=>k==(n:Int)) || l.getD q false))
 | [],_=>by unfold allR othersR;simp
 | k::ks,hk=>by
   have ih:=allR_split R l q n hR ks (fun x hx=>hk x (List.mem_cons_of_mem _ hx))
   obtain ⟨h0,h1⟩:=hk k (List.mem_cons_self ..)
   unfold allR othersR at ih ⊢
   rw [List.any_cons,List.all_cons,List.any_cons,Bool.not_or,ih]
   by_cases e:k=(n:Int)
   ·have e1:(k==(n:Int))=true:=beq_iff_eq.2 e
    have e2:((R++[l]).getD k.toNat []).getD q false=l.getD q false:=by
     rw [List.getD_eq_getElem?_getD (l:=R++[l]),show k.toNat=R.length by omega,List.getElem?_append_right (Nat.le_refl _),Nat.sub_self];rfl
    rw [e1,e2]
    generalize l.getD q false=x
    generalize (ks.all fun k=>k==(n:Int) || (R.getD k.toNat []).getD q false)=y
    generalize (ks.any fun k=>k==(n:Int))=z
    cases x <;> cases y <;> cases z <;> rfl
   ·have e1:(k==(n:Int))=false:=beq_eq_false_iff_ne.2 e
    have e2:((R++[l]).getD k.toNat []).getD q false=(R.getD k.toNat []).getD q false:=by
     rw [List.getD_eq_getElem?_getD (l:=R++[l]),List.getElem?_append_left (by omega),← List.getD_eq_getElem?_getD]
    rw [e1,e2]
    generalize l.getD q false=x
    generalize (R.getD k.toNat []).getD q false=u
    generalize (ks.all fun k=>k==(n:Int) || (R.getD k.toNat []).getD q false)=y
    generalize (ks.any fun k=>k==(n:Int))=z
    cases x <;> cases y <;> cases z <;> cases u <;> rfl
theorem leavesR_getD {R:List (List Bool)} {ms:List Mvi} {M:List Int} {np n:Nat} {own:Bool} {j:Nat} (hj:j < M.length):(leavesR R ms M np n own).getD j false=stepB R ms M np n j own:=by
 unfold leavesR
 rw [List.getD_eq_getElem?_getD,List.getElem?_map,List.getElem?_range hj];rfl
theorem updA_updL {R:List (List Bool)} {ms:List Mvi} {M:List Int} {np n:Nat} (hR:R.length=n) (hto:∀ m∈ms,∀ k∈m.to,0≤k∧k≤(n:Int)) {l:List Bool} {j:Nat} (hj:j < M.length):updA R ms M np l j=updL np M.length (leavesR R ms M np n false) (leavesR R ms M np n true) l j:=by
 unfold updA updL
 rw [leavesR_getD hj,leavesR_getD hj]
 congr 1
 have h:=any_split (fun m=>hasI m.yes m.no (M.getD j 0)) (fun m=>othersR R m.to n (nextN np M.length j)) (fun m=>m.to.any fun k=>k==(n:Int)) (l.getD (nextN np M.length j) false) ms
 unfold stepB
 have e:∀ own,(stepM R M np n j own)=fun m=>(hasI m.yes m.no (M.getD j 0)&&othersR R m.to n (nextN np M.length j))&&((m.to.any fun k=>k==(n:Int))==own):=fun own=>by funext m;rfl
 rw [e,e,← h]
 have e2:∀ ms':List Mvi,(∀ m∈ms',∀ k∈m.to,0≤k∧k≤(n:Int))→(ms'.any fun m=>hasI m.yes m.no (M.getD j 0)&&allR (R++[l]) m.to (nextN np M.length j))=ms'.any fun m=>hasI m.yes m.no (M.getD j 0)&&(othersR R m.to n (nextN np M.length j)&&(!(m.to.any fun k=>k==(n:Int)) || l.getD (nextN np M.length j) false)):=by
  intro ms'
  induction ms' with
  | nil=>intro _;rfl
  | cons m ms' ih =>
    intro hh
    rw [List.any_cons,List.any_cons,ih (fun x hx=>hh x (List.mem_cons_of_mem _ hx)),allR_split R l _ n hR m.to (hh m (List.mem_cons_self ..))]
 exact e2 ms hto
theorem sweepA_to {R:List (List Bool)} {ms:List Mvi} {M:List Int} {np n:Nat} (hR:R.length=n) (hto:∀ m∈ms,∀ k∈m.to,0≤k∧k≤(n:Int)):∀ (m:Nat) (l:List Bool),m≤M.length→sweepA R ms M np m l=sweepTo np M.length (leavesR R ms M np n false) (leavesR R ms M np n true) m l
 | 0,_,_=>rfl
 | m+1,l,h=>by rw [sweepA,sweepTo,updA_updL hR hto (by omega),sweepA_to hR hto m _ (by omega)]
theorem rowI_rowR {R:List (List Bool)} {s:Sti} {M:List Int} {np n:Nat} (hR:R.length=n) (hto:∀ m∈s.moves,∀ k∈m.to,0≤k∧k≤(n:Int)) (hnp:np < M.length):rowI R s M np=rowR R s M np n:=by
 have e:rowI R s M np=fixL np M.length (leavesR R s.moves M np n false) (leavesR R s.moves M np n true) (!s.fin):=by
  unfold rowI timesA timesA timesA fixL
  rw [sweepA_to hR hto _ _ (Nat.le_refl _),sweepA_to hR hto _ _ (Nat.le_refl _)]
 unfold rowR
 refine range_list (rowI_len R s M np) (fun q hq=>?_)
 have hl:=rowI_len R s M np
 rw [walkR_fix hnp _ hq,← e]
 exact getDb_some (by omega)
theorem state_to {s:Sti} {n:Nat} (h:stateP s n):∀ m∈s.moves,∀ k∈m.to,0≤k∧k≤(n:Int):=fun m hm k hk=>by
 obtain ⟨i,hi,rfl⟩:=List.mem_iff_getElem.1 hm
 have h1:=(h i hi).2
 rw [List.getD_eq_getElem?_getD,List.getElem?_eq_getElem hi] at h1
 obtain ⟨j,hj,rfl⟩:=List.mem_iff_getElem.1 hk
 have h2:=h1 j hj
 unfold okAt at h2
 simp only [Option.getD_some] at h2
 rw [List.getD_eq_getElem?_getD,List.getElem?_eq_getElem hj] at h2
 simp only [Option.getD_some] at h2
 omega
theorem rowsI_rowsR {S:List Sti} {M:List Int} {np:Nat} (hnp:np < M.length) (h:∀ n,n < S.length→stateP (S.getD n s0) n):∀ n,n≤S.length→rowsI S M np n=rowsR S M np n
 | 0,_=>rfl
 | n+1,hn=>by
   rw [rowsI,rowsR,rowsI_rowsR hnp h n (by omega),rowI_rowR (rowsR_length S M np n) (state_to (h n (by omega))) hnp]
end Go.Proofs.YtkgfdgfhpdhhaaaGreat
namespace Go.Proofs.YtkgfdgfhpdhhaaaGreat
open PL (posN posN_lt posN_next FX FX.congr fixL_pos)
theorem rowR_fix {R:List (List Bool)} {s:Sti} {M:List Int} {np n p:Nat} (hnp:np < M.length) (hp:p < M.length):(rowR R s M np n).getD p false=(fixL np M.length (leavesR R s.moves M np n false) (leavesR R s.moves M np n true) (!s.fin)).getD p false:=by
 unfold rowR
 rw [List.getD_eq_getElem?_getD,List.getElem?_map,List.getElem?_range hp]
 exact walkR_fix hnp _ hp
section
variable {S : List Sti} {M M' : List Int} {np np' : Nat}
end
end Go.Proofs.YtkgfdgfhpdhhaaaGreat
