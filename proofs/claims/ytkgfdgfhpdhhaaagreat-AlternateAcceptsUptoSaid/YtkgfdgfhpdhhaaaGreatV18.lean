/- Parts of the walks and of the plain theory: alternate.Accepts: what is wrong, or whether the word is accepted. Conditions: the automaton and the word lie in the world, they are of no bulk beyond bounds. -/
import Derived.Test.YtkgfdgfhpdhhaaaGreatV17
import Derived.Laws.EntriesVeiled
namespace Go.Proofs.YtkgfdgfhpdhhaaaGreat
open Go.ChangeShapes Go.WideShapes Go.RowKit
attribute [local go_sem] Oper.semAt_some
def accCode (I : List (List Int)) (S : List Sti) (np nl : Nat) : Int := if checkAN I S ≠ 0 then checkAN I S else lcheckN np nl
def accB (I : List (List Int)) (S : List Sti) (P L : List Int) : Bool := decide (accCode I S P.length L.length = 0) && accI I S (P ++ L) P.length
def AccPost (I : List (List Int)) (S : List Sti) (P L : List Int) (w : World) (e : Ending) (w' : World) : Prop := e = .returned (.tuple #[.bool (accB I S P L), .int .i64 (accCode I S P.length L.length)]) ∧ Chg Nob w w'
theorem lcheck_okz {np nl : Nat} (h : lcheckN np nl = 0) : 0 < nl ∧ np + nl ≤ 4096 := by
  unfold lcheckN at h
  split at h
  · cases h
  · omega
theorem URow.ownz {w : World} {B n : Nat} {v : Value} {M : List Int} (h : w.ownsRow B 53 1 v n (uvs M)) (hn : n = M.length) (h0 : 0 < n) : ∃ g c, v = .slice (some ⟨g, 0, none⟩) M.length c ∧ URow w (some ⟨g, 0, none⟩) M := by
  obtain ⟨g, c, rfl, hc⟩ := ownsRow_some h h0
  subst hn
  exact ⟨g, c, rfl, fun j x hj => ⟨_, rfl, hc j _ (by unfold uvs; rw [List.getElem?_map, hj]; rfl)⟩⟩
theorem cell_one' {w : World} {b : Nat} {x : Value} {t : TypeId} (h : w.heap[b]? = some (.cells #[x] t (0, 0))) : w.cell? ⟨b, 0, none⟩ = some x := cell_row h 0 rfl
structure Beside (W : World) (wb lb nb : Nat) (ww : Option Addr) (cw : Nat) (M : List Int) (ap : Option Addr) (np cp : Nat) (as' : Option Addr) (S : List Sti) (ai : Option Addr) (I : List (List Int)) : Prop where
  word : W.cell? ⟨wb, 0, none⟩ = some (.slice ww M.length cw)
  las : W.cell? ⟨lb, 0, none⟩ = some (.slice ap np cp)
  next : W.cell? ⟨nb, 0, none⟩ = some (.func (.func 33) #[] #[.pointer (some ⟨wb, 0, none⟩), .pointer (some ⟨lb, 0, none⟩)])
  letters : URow W ww M
  states : SRow W as' S
  sets : LRow W ai I
theorem Beside.nob {W W' : World} {wb lb nb : Nat} {ww : Option Addr} {cw : Nat} {M : List Int} {ap : Option Addr} {np cp : Nat} {as' : Option Addr} {S : List Sti} {ai : Option Addr} {I : List (List Int)} (h : Beside W wb lb nb ww cw M ap np cp as' S ai I) (hc : Chg Nob W W') : Beside W' wb lb nb ww cw M ap np cp as' S ai I :=
  ⟨hc.cell' h.word (fun e => e), hc.cell' h.las (fun e => e), hc.cell' h.next (fun e => e), h.letters.nob hc, h.states.nob hc, h.sets.nob hc⟩
theorem Beside.acc {W : World} {wb lb nb : Nat} {ww : Option Addr} {cw : Nat} {M : List Int} {ap : Option Addr} {np cp : Nat} {as' : Option Addr} {S : List Sti} {ai : Option Addr} {I : List (List Int)} (h : Beside W wb lb nb ww cw M ap np cp as' S ai I) {ib i : Nat} (hi : W.cell? ⟨ib, 0, none⟩ = some (.int .i64 (i : Int))) : AccW W wb lb nb ib ww cw M ap np cp i :=
  ⟨h.word, h.las, h.next, hi, h.letters⟩
section
variable {w : World} {ai as' ap al : Option Addr} {ci cs cp cl : Nat} {I : List (List Int)} {S : List Sti} {P L : List Int}
set_option maxRecDepth 100000 in
set_option maxHeartbeats 8000000 in
theorem accepts_any (hI : I.length ≤ 2000000) (hS : S.length ≤ 2000000) (h : LRow w ai I) (k : SRow w as' S) (hl : P.length + L.length ≤ 4000000) (hP : URow w ap P) (hL : URow w al L) (hnp : ap = none → cp = 0) (hnl : al = none → cl = 0) :
    Calls Tryz.prog 12 #[.agg #[.slice ai I.length ci, .slice as' S.length cs], .agg #[.slice ap P.length cp, .slice al L.length cl]] w (AccPost I S P L w) := by
  obtain ⟨X, hX, hcX, hb0, hb1, hsX⟩ : ∃ X, X = (w.alloc (.cells #[.slice ai I.length ci, .slice as' S.length cs] 38)).alloc (.cells #[.slice ap P.length cp, .slice al L.length cl] 28) ∧ Chg Nob w X ∧ X.heap[w.heap.size]? = some (.cells #[.slice ai I.length ci, .slice as' S.length cs] 38 (0, 0)) ∧ X.heap[w.heap.size + 1]? = some (.cells #[.slice ap P.length cp, .slice al L.length cl] 28 (0, 0)) ∧ X.heap.size = w.heap.size + 2 := by
    have h1 := heap_alloc_new (w.alloc (.cells #[.slice ai I.length ci, .slice as' S.length cs] 38)) (.cells #[.slice ap P.length cp, .slice al L.length cl] 28)
    rw [World.size_alloc] at h1
    exact ⟨_, rfl, ((Chg.refl _ _).alloc _).alloc _, ((Chg.refl Nob _).alloc _).at (heap_alloc_new w _) (fun e => e), h1, by rw [World.size_alloc, World.size_alloc]⟩
  obtain ⟨c0, c1, _⟩ := cell_two hb0
  obtain ⟨d0, d1, _⟩ := cell_two hb1
  have HcX := Lib.hid hcX
  have HI := Lib.hid (h.nob hcX)
  have HS := Lib.hid (k.nob hcX)
  have HP := Lib.hid (hP.nob hcX)
  have HL := Lib.hid (hL.nob hcX)
  have HB : Hid (∀ W, Chg Nob X W → (W.cell? ⟨w.heap.size, 0, none⟩ = some (.slice ai I.length ci) ∧ W.cell? ⟨w.heap.size, 1, none⟩ = some (.slice as' S.length cs)) ∧ W.cell? ⟨w.heap.size + 1, 0, none⟩ = some (.slice ap P.length cp) ∧ W.cell? ⟨w.heap.size + 1, 1, none⟩ = some (.slice al L.length cl)) := (show ∀ W, Chg Nob X W → (_ ∧ _) ∧ _ ∧ _ from fun W hW => ⟨⟨hW.cell' c0 (fun e => e), hW.cell' c1 (fun e => e)⟩, hW.cell' d0 (fun e => e), hW.cell' d1 (fun e => e)⟩)
  have hpc : Calls Tryz.prog 23 #[.agg #[.slice ai I.length ci, .slice as' S.length cs]] X fun e w' => e = .returned (.int .i64 (checkAN I S)) ∧ Chg Nob X w' := acheck_any hI hS HI.out HS.out
  have HsX := Lib.hid hsX
  rw [hX] at c0 c1 d0 d1
  obtain ⟨code, hcode⟩ : ∃ code, code = checkAN I S := ⟨_, rfl⟩
  rw [← hcode] at hpc
  have Hcode := Lib.hid hcode
  clear h k hb0 hb1 hcX hsX hP hL hcode
  go_enter Tryz.func12, Tryz.ntmps12
  go_wp2_with fail
  rw [← hX]
  clear hX c0 c1 d0 d1
  (with_reducible refine hpc.mono ?_)
  clear hpc
  rintro e w1 ⟨rfl, hc1⟩
  have Hc1 := Lib.hid hc1
  clear hc1
  obtain ⟨⟨c0, c1⟩, d0, d1⟩ := HB.out w1 Hc1.out
  cases h0 : (code == 0) with
  | false =>
    have hne : (code != 0) = true := by rw [bne, h0]; rfl
    have Hr : Hid (accCode I S P.length L.length = code ∧ accB I S P L = false) := (show _ ∧ _ by
      have hn : checkAN I S ≠ 0 := by rw [← Hcode.out]; exact beq_eq_false_iff_ne.1 h0
      have h1 : accCode I S P.length L.length = code := by unfold accCode; rw [if_pos hn, Hcode.out]
      refine ⟨h1, ?_⟩
      unfold accB
      rw [h1, decide_eq_false (beq_eq_false_iff_ne.1 h0)]; rfl)
    go_wp2_with fail
    refine bodyPost_ret (results_tmp2 rfl _ _ _) rfl ?_
    exact ⟨by rw [Hr.out.1, Hr.out.2]; rfl, HcX.out.trans1 Hc1.out⟩
  | true =>
    have hne : (code != 0) = false := by rw [bne, h0]; rfl
    have Hck : Hid (checkAN I S = 0) := (show checkAN I S = 0 by rw [← Hcode.out]; exact beq_iff_eq.1 h0)
    have hpl : Calls Tryz.prog 31 #[.agg #[.slice ap P.length cp, .slice al L.length cl]] w1 fun e w' => e = .returned (.int .i64 (lcheckN P.length L.length)) ∧ Chg Nob w1 w' := lcheckb_any P.length L.length hl
    obtain ⟨lc, hlc⟩ : ∃ lc, lc = lcheckN P.length L.length := ⟨_, rfl⟩
    rw [← hlc] at hpl
    have Hlc := Lib.hid hlc
    clear hlc Hcode
    go_wp2_with fail
    (with_reducible refine hpl.mono ?_)
    clear hpl c0 c1 d0 d1
    rintro e w2 ⟨rfl, hc2⟩
    have Hc2 : Hid (Chg Nob X w2) := (show Chg Nob X w2 from Hc1.out.trans1 hc2)
    clear hc2 Hc1
    obtain ⟨⟨c0, c1⟩, d0, d1⟩ := HB.out w2 Hc2.out
    have Hac : Hid (accCode I S P.length L.length = lc) := (show accCode I S P.length L.length = lc by unfold accCode; rw [if_neg (fun h => h Hck.out), Hlc.out])
    cases h1 : (lc == 0) with
    | false =>
      have hne1 : (lc != 0) = true := by rw [bne, h1]; rfl
      have Hr : Hid (accB I S P L = false) := (show accB I S P L = false by unfold accB; rw [Hac.out, decide_eq_false (beq_eq_false_iff_ne.1 h1)]; rfl)
      go_wp2_with fail
      refine bodyPost_ret (results_tmp2 rfl _ _ _) rfl ?_
      exact ⟨by rw [Hac.out, Hr.out]; rfl, HcX.out.trans1 Hc2.out⟩
    | true =>
      have hne1 : (lc != 0) = false := by rw [bne, h1]; rfl
      obtain ⟨hl0, hl4⟩ := lcheck_okz (np := P.length) (nl := L.length) (by rw [← Hlc.out]; exact beq_iff_eq.1 h1)
      have hfine : fineA I S := by
        have := Hck.out
        unfold checkAN at this
        by_cases hf : fineA I S
        · exact hf
        · rw [if_neg hf] at this; cases this
      have Hfine := Lib.hid hfine
      have Hr : Hid (accB I S P L = accI I S (P ++ L) P.length) := (show accB I S P L = _ by unfold accB; rw [Hac.out, decide_eq_true (beq_iff_eq.1 h1)]; rfl)
      have hs4 := hfine.1
      obtain ⟨C, hC, hcC, hbC, hsC⟩ := box_cells w2 #[.slice ap P.length cp, .slice al L.length cl] 26
      have hpk := concat_any (c := 2) (w := C) (by omega) hl0 ((HP.out.nob Hc2.out).nob hcC) ((HL.out.nob Hc2.out).nob hcC) hnp hnl hbC
      have HC := Lib.hid (Hc2.out.trans1 hcC)
      clear hfine hbC hsC hcC
      go_wp2_with fail
      rw [← hC]
      clear hC c0 c1 d0 d1
      (with_reducible refine hpk.mono ?_)
      clear hpk
      rintro e w3 ⟨hc3, v, rfl, hown⟩
      have hMl : (P ++ L).length = P.length + L.length := List.length_append
      obtain ⟨gw, cw, rfl, hM⟩ := URow.ownz hown hMl.symm (by omega)
      have Hc3 : Hid (Chg Nob X w3) := (show Chg Nob X w3 from HC.out.trans1 hc3)
      clear hown hc3 HC Hc2
      obtain ⟨M, hMe⟩ : ∃ M, M = P ++ L := ⟨_, rfl⟩
      rw [← hMe] at hM hMl Hr ⊢
      obtain ⟨Y1, hY1, hcY1, hbY1, hsY1⟩ := box_cells w3 #[.slice (some ⟨gw, 0, none⟩) M.length cw] 26
      obtain ⟨Y, hY, hcY, hbY, hsY⟩ := box_cells Y1 #[.func (.func 33) #[] #[.pointer (some ⟨w3.heap.size, 0, none⟩), .pointer (some ⟨w.heap.size + 1, 0, none⟩)]] 65
      obtain ⟨rcs, hrs, hmk⟩ := make66 S.length (by omega) Y
      obtain ⟨Z1, hZ1, hcZ1, hbZ1, hsZ1⟩ := box_cells Y rcs 34
      obtain ⟨Z, hZ, hcZ, hbZ, hsZ⟩ := box_cells Z1 #[.slice (some ⟨Y.heap.size, 0, none⟩) S.length S.length] 66
      have hXY := (Hc3.out.trans1 hcY1).trans1 hcY
      have HB0 : Hid (Beside Y w3.heap.size (w.heap.size + 1) Y1.heap.size (some ⟨gw, 0, none⟩) cw M ap P.length cp as' S ai I) := (show Beside Y _ _ _ _ _ _ _ _ _ _ _ _ _ from
        ⟨hcY.cell' (cell_one' hbY1) (fun e => e), (HB.out Y hXY).2.1, cell_one' hbY, (hM.nob hcY1).nob hcY, HS.out.nob hXY, HI.out.nob hXY⟩)
      have HL0 : Hid (RunsL Z Y Z1.heap.size Y.heap.size S.length [] [] M.length) := (show RunsL Z Y _ _ _ _ _ _ from
        ⟨hcZ1.trans1 hcZ, Nat.le_refl _, by omega, cell_one' hbZ, ⟨rcs, hcZ.at hbZ1 (fun e => e), hrs, fun k g hk => by simp at hk⟩, rfl, fun k g r hk => by simp at hk⟩)
      have HXY := Lib.hid hXY
      have HXZ := Lib.hid ((hXY.trans1 hcZ1).trans1 hcZ)
      have Hl0 : Hid (P.length < M.length ∧ M.length ≤ 4096) := (show _ ∧ _ by omega)
      have HsY1 := Lib.hid hsY1
      have HsY := Lib.hid hsY
      have HsZ1 := Lib.hid hsZ1
      have HMe := Lib.hid hMe
      have hns : S.length ≤ 4096 := hs4
      clear hM hbY1 hbY hbZ1 hbZ hcY1 hcY hcZ1 hcZ hMl hMe hl0 hl4 hs4 hl hnp hnl hsY1 hsY hsZ1 hsZ
      go_upto_region 8 with fail
      rw [← hY1]
      clear hY1
      go_upto_region 9 with fail
      rw [← hY]
      clear hY
      obtain ⟨⟨c0, c1⟩, d0, d1⟩ := HB.out Y HXY.out
      go_upto_region 10 with fail
      rw [← hZ1, ← hZ]
      clear c0 c1 d0 d1 hmk hXY hZ1 hZ
      obtain ⟨⟨c0, c1⟩, d0, d1⟩ := HB.out Z HXZ.out
      go_wp2_with fail
      have HlcZ : Hid (lc = 0) := Lib.hid (beq_iff_eq.1 h1)
      clear c0 c1 d0 d1 HsX HXZ h0 hne h1 hne1
      rw [HsZ1.out] at HL0
      clear HsZ1
      obtain ⟨np, hnpe⟩ : ∃ np, np = P.length := ⟨_, rfl⟩
      rw [← hnpe] at HB0 Hl0
      have Hnpe := Lib.hid hnpe
      clear hnpe
      have HgrY : Hid (Y.heap.size ≤ Y.heap.size) := Nat.le_refl _
      generalize hq2 : Y.heap.size + 1 = rb at *
      generalize hq1 : Y.heap.size = gr at *
      generalize hq3 : Y1.heap.size = nb at *
      generalize hq4 : w3.heap.size = wb at *
      have Hq1 := Lib.hid hq1
      clear hq1 hq2 hq3 hq4 hrs
      have hM4 : M.length ≤ 4096 := Hl0.out.2
      go_loopw [40] (fun iv wr => ∃ (i : Nat) (gs : List Nat), iv = .int .i64 (i : Int) ∧ i ≤ S.length ∧ Hid (RunsL wr Y rb gr S.length gs (rowsI S M np i) M.length)) (fun iv _ => S.length - (intOf iv).toNat)
      case atStart => exact ⟨0, [], rfl, Nat.zero_le _, HL0⟩
      case round =>
        obtain ⟨i, gs, rfl, hi, HL⟩ := hrel
        obtain ⟨wr0, hwr0⟩ : ∃ W, W = wr := ⟨_, rfl⟩
        subst hwr0
        have HBw := Lib.hid (HB0.out.nob HL.out.chg)
        by_cases hlt : i < S.length
        · obtain ⟨s, hs⟩ : ∃ s, S[i]? = some s := ⟨_, List.getElem?_eq_getElem hlt⟩
          obtain ⟨b, o, am, cm, rfl, hf, hmv, hml, hmr⟩ := HBw.out.states i s hs
          have hsd : S.getD i s0 = s := by rw [List.getD_eq_getElem?_getD, hs]; rfl
          have Hsd := Lib.hid hsd
          have hii : (i : Int) < (S.length : Int) := by omega
          have hi0 : (0 : Int) ≤ (i : Int) := by omega
          obtain ⟨R, hR⟩ : ∃ R, R = rowsI S M np i := ⟨_, rfl⟩
          have Hrl : Hid (R.length = i) := (show R.length = i by rw [hR, rowsI_length])
          rw [← hR] at HL
          have HR := Lib.hid hR
          clear hR
          have HrbW : Hid (rb < wr0.heap.size) := Lib.hid (World.block_lt_of_cell? _ _ HL.out.box)
          have HmrA : Hid (∀ V, Chg Nob Y V → MRow V am s.moves) := (show ∀ V, Chg Nob Y V → MRow V am s.moves from fun V hV => by
            obtain ⟨b', o', am', cm', e1, _, e2, _, e3⟩ := HB0.out.states i s hs
            cases e1
            have e4 := HL.out.chg.cell' e2 (fun e => e)
            rw [hmv] at e4
            cases e4
            exact e3.nob hV)
          have HP2 : Hid (stateP s i) := (show stateP s i by have := Hfine.out.2.2.2.1 i hlt; rwa [Hsd.out] at this)
          obtain ⟨Q1, hQ1, hcQ1, hbQ1, hsQ1⟩ := box_cells wr0 #[.bool s.fin, .slice am s.moves.length cm] 69
          obtain ⟨q0, q1, _⟩ := cell_two hbQ1
          have hmk2 := make116 M.length (by have := Hl0.out.2; omega) Q1
          obtain ⟨Q2, hQ2, hcQ2, hbQ2, hsQ2⟩ := box_cells Q1 (bcells (List.replicate M.length false)) 4
          have hword := (hcQ1.cell' HBw.out.word (fun e => e))
          have HQ12 := Lib.hid hcQ2
          have HQ2 := Lib.hid (hcQ1.trans1 hcQ2)
          have Hst : Hid (∀ V, Chg (At1 Q1.heap.size) Q2 V → V.cell? ⟨wr0.heap.size, 0, none⟩ = some (.bool s.fin) ∧ V.cell? ⟨wr0.heap.size, 1, none⟩ = some (.slice am s.moves.length cm)) := (show ∀ V, Chg (At1 Q1.heap.size) Q2 V → _ ∧ _ from fun V hV => ⟨hV.cell' (hcQ2.cell' q0 (fun e => e)) (fun e => by have e : wr0.heap.size = Q1.heap.size := e; omega), hV.cell' (hcQ2.cell' q1 (fun e => e)) (fun e => by have e : wr0.heap.size = Q1.heap.size := e; omega)⟩)
          have Hmr := Lib.hid hmr
          have Hb0 : Hid (BBlk Q2 Q1.heap.size (List.replicate M.length false)) := hbQ2
          have HszQ : Hid (Q1.heap.size = wr0.heap.size + 1) := hsQ1
          clear hbQ1 hbQ2 hcQ1 hcQ2 hsQ1 hsQ2 hs hsd hmr
          go_upto_region 13 with fail
          rw [← hQ1]
          clear hQ1
          go_upto_region 14 with fail
          rw [← hQ2]
          clear hQ2 hmk2 hf hmv q0 q1 hword
          go_wp2_with fail
          go_loopw [50] (fun jv W => ∃ (j : Nat) (l : List Bool), jv = .int .i64 (j : Int) ∧ j ≤ M.length ∧ Hid (l.length = M.length ∧ ∀ q, q < j → l[q]? = some (!s.fin)) ∧ Hid (BBlk W Q1.heap.size l) ∧ Hid (Chg (At1 Q1.heap.size) Q2 W)) (fun jv _ => M.length - (intOf jv).toNat)
          case atStart => exact ⟨0, _, rfl, Nat.zero_le _, (show _ ∧ _ from ⟨List.length_replicate, fun q hq => absurd hq (Nat.not_lt_zero q)⟩), Hb0, Chg.refl _ _⟩
          case round =>
            obtain ⟨j, l, rfl, hj, Hl, Hb, Hc⟩ := hrel
            by_cases hjl : j < M.length
            · have hji : (j : Int) < (M.length : Int) := by omega
              have hj0 : (0 : Int) ≤ (j : Int) := by omega
              obtain ⟨t0, _⟩ := Hst.out _ Hc.out
              have e0 := Hb.out.cell (j := j) (x := l.getD j false) (getDb_some (by have := Hl.out.1; omega))
              have f0 := Hb.out.free j
              have Hl2 : Hid ((l.set j (!s.fin)).length = M.length ∧ ∀ q, q < j + 1 → (l.set j (!s.fin))[q]? = some (!s.fin)) := (show _ ∧ _ from ⟨by rw [List.length_set]; exact Hl.out.1, fun q hq => by
                by_cases e : q = j
                · subst e; rw [List.getElem?_set_self (by have := Hl.out.1; omega)]
                · rw [List.getElem?_set_ne (Ne.symm e)]; exact Hl.out.2 q (by omega)⟩)
              have Hb2 := Lib.hid (Hb.out.set j (!s.fin))
              have Hc2 : Hid (Chg (At1 Q1.heap.size) Q2 (wr.setCell ⟨Q1.heap.size, j, none⟩ (.bool (!s.fin)))) := (show Chg (At1 Q1.heap.size) Q2 _ from Hc.out.setCell (p := ⟨Q1.heap.size, j, none⟩) (fun _ => rfl) _)
              go_wp2_with fail
              go_roundw
              case rel => exact ⟨j + 1, _, by go_num, by omega, Hl2, Hb2, Hc2⟩
              case measure => simp [intOf]; omega
            · obtain rfl : j = M.length := by omega
              have hle : l = List.replicate M.length (!s.fin) := by
                refine List.ext_getElem? (fun q => ?_)
                rcases Nat.lt_or_ge q M.length with hq | hq
                · rw [Hl.out.2 q hq, List.getElem?_replicate, if_pos hq]
                · rw [List.getElem?_eq_none_iff.2 (by have := Hl.out.1; omega), List.getElem?_eq_none_iff.2 (by rw [List.length_replicate]; omega)]
              have HL3 := Lib.hid (HL.out.nob ((HQ2.out).trans Hc.out (fun q hq e => by have e : q = Q1.heap.size := e; have := HszQ.out; omega)))
              rw [hle] at Hb
              have hpush := HL3.out.push (by rw [Hrl.out]; exact hlt) Hb.out (by have := World.block_lt_of_cell? _ _ HL.out.box; have := HszQ.out; simp only at *; omega) (by rw [List.length_replicate])
              rw [Hrl.out] at hpush
              obtain ⟨⟨pv, p0⟩, pf, hL4⟩ := hpush
              have rbx := HL3.out.box
              obtain ⟨V0, hV0⟩ : ∃ V0, V0 = wr.setCell ⟨gr, i, none⟩ (.slice (some ⟨Q1.heap.size, 0, none⟩) M.length M.length) := ⟨_, rfl⟩
              rw [← hV0] at hL4
              have HL4 : Hid (RunsL V0 Y rb gr S.length (gs ++ [Q1.heap.size]) (R ++ [List.replicate M.length (!s.fin)]) M.length) := hL4
              have HsV : Hid (V0.cell? ⟨wr0.heap.size, 1, none⟩ = some (.slice am s.moves.length cm)) := (show V0.cell? _ = _ by
                have h1 := (Hst.out _ Hc.out).2
                have hset : Chg (At1 gr) wr V0 := hV0 ▸ (Chg.refl (At1 gr) wr).setCell (p := ⟨gr, i, none⟩) (fun _ => rfl) _
                exact hset.cell' h1 (fun e => by have e : wr0.heap.size = gr := e; have := HrbW.out; have := HL.out.order; omega))
              have Hfr : Hid (∀ (k g' : Nat), gs[k]? = some g' → g' ≠ Q1.heap.size) := (show ∀ (k g' : Nat), gs[k]? = some g' → g' ≠ Q1.heap.size from fun k g' hk e => by
                have hk2 : k < R.length := by rw [← HL.out.len]; exact (List.getElem?_eq_some_iff.1 hk).1
                have h2 := (HL.out.row k g' _ hk (List.getElem?_eq_getElem hk2)).1.lt
                have := HszQ.out
                omega)
              have HgR : Hid (gr < wr0.heap.size ∧ wr0.heap.size < Q1.heap.size) := (show _ ∧ _ by have := HrbW.out; have := HL.out.order; have := HszQ.out; omega)
              clear hL4 HL0 Hl hle hjl hj HL3 Hst Hc Hb Hb0 HQ2 HQ12
              go_wp2_with fail
              rw [← hV0]
              clear hV0 p0 pf rbx
              generalize hgq : Q1.heap.size = g at *
              generalize hsb : wr0.heap.size = sb at *
              clear hgq hsb HszQ HrbW
              obtain ⟨T0, hT0⟩ : ∃ T0, T0 = rowI R s M np := ⟨_, rfl⟩
              have HT0 := Lib.hid hT0
              clear hT0
              go_loopw [64] (fun rv W => ∃ (r : Nat) (l : List Bool), rv = .int .i64 (r : Int) ∧ r ≤ 2 ∧ Hid (timesA R s.moves M np (2 - r) l = T0) ∧ Hid (RunsL W Y rb gr S.length (gs ++ [g]) (R ++ [l]) M.length) ∧ Hid (W.cell? ⟨sb, 1, none⟩ = some (.slice am s.moves.length cm))) (fun rv _ => 2 - (intOf rv).toNat)
              case atStart => exact ⟨0, _, rfl, by omega, (show timesA R s.moves M np 2 _ = T0 from HT0.out.symm), HL4, HsV⟩
              case round =>
                obtain ⟨r, l, rfl, hr2, Ht, HLr, Hsr⟩ := hrel
                by_cases hrl : r < 2
                · have hri : (r : Int) < 2 := by omega
                  have hword := (HB0.out.nob HLr.out.chg).word
                  obtain ⟨D, hD, hcD, hbD, hsD⟩ := box_cells wr #[.int .i64 ((M.length : Int) - 1)] 3
                  obtain ⟨T1, hT1⟩ : ∃ T1, T1 = sweepA R s.moves M np M.length l := ⟨_, rfl⟩
                  have Ht1 : Hid (timesA R s.moves M np (2 - (r + 1)) T1 = T0) := (show _ = T0 by
                    have h1 := Ht.out
                    rw [show 2 - r = (2 - (r + 1)) + 1 by omega, timesA, ← hT1] at h1
                    exact h1)
                  have HLd := Lib.hid (HLr.out.nob hcD)
                  have Hsd2 := Lib.hid (hcD.cell' Hsr.out (fun e => e))
                  have Hbd : Hid (D.heap[wr.heap.size]? = some (.cells #[.int .i64 ((M.length : Int) - 1)] 3 (0, 0))) := hbD
                  have HT1 := Lib.hid hT1.symm
                  clear hT1 hbD hcD Ht hsD
                  go_wp2_with fail
                  rw [← hD]
                  clear hD hword
                  go_loopw [15] (fun pv W => ∃ (ib q : Nat) (l : List Bool), pv = .pointer (some ⟨ib, 0, none⟩) ∧ q ≤ M.length ∧ Hid (W.heap[ib]? = some (.cells #[.int .i64 ((q : Int) - 1)] 3 (0, 0))) ∧ Hid (sweepA R s.moves M np q l = T1) ∧ Hid (RunsL W Y rb gr S.length (gs ++ [g]) (R ++ [l]) M.length) ∧ Hid (W.cell? ⟨sb, 1, none⟩ = some (.slice am s.moves.length cm))) (fun pv W => boxN pv W)
                  case atStart => exact ⟨_, M.length, l, rfl, Nat.le_refl _, Hbd, HT1, HLd, Hsd2⟩
                  case round =>
                    obtain ⟨ib, q, l, rfl, hq, Hib, Hsw, HLq, Hsq⟩ := hrel
                    cases q with
                    | zero =>
                      have hT : l = T1 := Hsw.out
                      have hc0 := cell_one' Hib.out
                      have hz : ((0 : Nat) : Int) - 1 = -1 := rfl
                      rw [hz] at hc0
                      rw [hT] at HLq
                      clear hT hz
                      go_wp2_with fail
                      go_roundw
                      case rel => exact ⟨r + 1, T1, by go_num, by omega, Ht1, HLq, Hsq⟩
                      case measure => simp [intOf]; omega
                    | succ j =>
                      have hc0 := cell_one' Hib.out
                      have hz : ((j + 1 : Nat) : Int) - 1 = (j : Int) := by omega
                      rw [hz] at hc0
                      have hj0 : (0 : Int) ≤ (j : Int) := by omega
                      have hjl : (j : Int) < (M.length : Int) := by omega
                      have HLv0 : Hid (gs.length = R.length) := (show gs.length = R.length by have := HLq.out.len; simpa using this)
                      have HAq : Hid (AccW wr wb (w.heap.size + 1) nb ib (some ⟨gw, 0, none⟩) cw M ap np cp j) := Lib.hid ((HB0.out.nob HLq.out.chg).acc hc0)
                      have hsq := Hsq.out
                      have HScut : Hid (∀ w', Chg Nob wr w' → w'.cell? ⟨ib, 0, none⟩ = some (.int .i64 (j : Int)) ∧ w'.cell? ⟨sb, 1, none⟩ = some (.slice am s.moves.length cm)) := (show ∀ w', Chg Nob wr w' → w'.cell? ⟨ib, 0, none⟩ = some (.int .i64 (j : Int)) ∧ w'.cell? ⟨sb, 1, none⟩ = some (.slice am s.moves.length cm) from fun w' h => ⟨h.cell' hc0 (fun e => e), h.cell' hsq (fun e => e)⟩)
                      have Hp : Hid (∀ V, Chg Nob wr V → Calls Tryz.prog 34 #[.slice am s.moves.length cm, .func (.func 35) #[] #[.pointer (some ⟨wb, 0, none⟩), .pointer (some ⟨ib, 0, none⟩), .pointer (some ⟨rb, 0, none⟩), .pointer (some ⟨nb, 0, none⟩)]] V fun e w' => e = .returned (.bool (s.moves.any fun m => hasI m.yes m.no (M.getD j 0) && allR (R ++ [l]) m.to (nextN np M.length j))) ∧ Chg Nob V w') :=
                        (show ∀ V, Chg Nob wr V → Calls Tryz.prog 34 #[.slice am s.moves.length cm, .func (.func 35) #[] #[.pointer (some ⟨wb, 0, none⟩), .pointer (some ⟨ib, 0, none⟩), .pointer (some ⟨rb, 0, none⟩), .pointer (some ⟨nb, 0, none⟩)]] V fun e w' => e = .returned (.bool (s.moves.any fun m => hasI m.yes m.no (M.getD j 0) && allR (R ++ [l]) m.to (nextN np M.length j))) ∧ Chg Nob V w' from fun V hV => by
                          have hmrV : MRow V am s.moves := HmrA.out V (HLq.out.chg.trans1 hV)
                          refine contains_moves (c := cm) (k := 35) (caps := #[.pointer (some ⟨wb, 0, none⟩), .pointer (some ⟨ib, 0, none⟩), .pointer (some ⟨rb, 0, none⟩), .pointer (some ⟨nb, 0, none⟩)]) (s := fun m => hasI m.yes m.no (M.getD j 0) && allR (R ++ [l]) m.to (nextN np M.length j)) hml hmrV (enters_of Tryz.func35 (by kernel_rfl) rfl) (fun k m hm W hW at' ct hto htl => ?_)
                          refine amove_any (rows := R ++ [l]) ((HLq.out.nob (hV.trans1 hW)).runs (by rw [List.length_append, Hrl.out]; exact hlt)) (HAq.out.nob (hV.trans1 hW)) (by omega) (by omega) (by omega) Hl0.out.1 hto htl (fun x hx => ?_)
                          have hk : k < s.moves.length := (List.getElem?_eq_some_iff.1 hm).1
                          have h1 := (HP2.out k hk).2
                          rw [List.getD_eq_getElem?_getD, hm] at h1
                          obtain ⟨jj, hjj, rfl⟩ := List.mem_iff_getElem.1 hx
                          have h2 := h1 jj hjj
                          have h3 : m.to.getD jj 0 = m.to[jj] := by rw [List.getD_eq_getElem?_getD, List.getElem?_eq_getElem hjj]; rfl
                          unfold okAt at h2
                          simp only [Option.getD_some] at h2
                          rw [h3] at h2
                          rw [List.length_append, Hrl.out]
                          simp only [List.length_cons, List.length_nil]
                          omega)
                      clear hz
                      go_wp2_with fail
                      refine wp_region_free (fun i => i != 7) (fun w' => w'.cell? ⟨ib, 0, none⟩ = some (.int .i64 (j : Int)) ∧ w'.cell? ⟨sb, 1, none⟩ = some (.slice am s.moves.length cm)) (by kernel_rfl) ⟨hc0, hsq⟩ (fun hHeld => ?_)
                      refine wpAnyG_take (i := 0) (v := ?_) rfl (by kernel_rfl) (fun _ _ _ h => h) (Or.inl ⟨by rfl, ?_⟩) hHeld ?_
                      rotate_left
                      · intro w hSw; obtain ⟨hc0, hsq⟩ := hSw; go_simp; (try (with_reducible rfl))
                      simp only [Act.put, List.setIfInBounds_toArray]
                      refine wpAnyG_take (i := 1) (v := ?_) rfl (by kernel_rfl) (fun _ _ _ h => h) (Or.inl ⟨by rfl, ?_⟩) hHeld ?_
                      rotate_left
                      · intro w hSw; obtain ⟨hc0, hsq⟩ := hSw; go_simp; (try (with_reducible rfl))
                      try simp only [Act.put]
                      refine wpAnyG_take (i := 2) (v := ?_) rfl (by kernel_rfl) (fun _ _ _ h => h) (Or.inl ⟨by rfl, ?_⟩) hHeld ?_
                      rotate_left
                      · intro w hSw; obtain ⟨hc0, hsq⟩ := hSw; go_simp; (try (with_reducible rfl))
                      try simp only [Act.put]
                      refine wpAnyG_take (i := 3) (v := ?_) rfl (by kernel_rfl) (fun _ _ _ h => h) (Or.inl ⟨by rfl, ?_⟩) hHeld ?_
                      rotate_left
                      · intro w hSw; obtain ⟨hc0, hsq⟩ := hSw; go_simp; (try (with_reducible rfl))
                      try simp only [Act.put]
                      refine wpAnyG_take (i := 4) (v := ?_) rfl (by kernel_rfl) (fun _ _ _ h => h) (Or.inl ⟨by kernel_rfl, ?_⟩) hHeld ?_
                      rotate_left
                      · intro w hSw; obtain ⟨hc0, hsq⟩ := hSw; go_simp; (try (with_reducible rfl))
                      try simp only [Act.put]
                      refine wpAnyG_ready (rs := [5]) (by kernel_rfl) (by simp) ?_
                      refine AllReadyG.cons rfl (fun K hK => ?_) AllReadyG.nil
                      rw [if_pos (by kernel_rfl)]
                      go_simp
                      (with_reducible refine (Hp.out _ (((Chg.refl Nob wr).drew))).mono ?_)
                      rintro e v1 ⟨rfl, hc5⟩
                      have Hv1 : Hid (Chg Nob wr v1) := (show Chg Nob wr v1 from (((Chg.refl Nob wr).drew)).trans1 hc5)
                      clear hc5
                      obtain ⟨x, hx⟩ : ∃ x, x = (s.moves.any fun m => hasI m.yes m.no (M.getD j 0) && allR (R ++ [l]) m.to (nextN np M.length j)) := ⟨_, rfl⟩
                      rw [← hx]
                      have Hx := Lib.hid hx
                      clear hx
                      refine hK.out _ _ (fun _ => HScut.out _ Hv1.out) ?_
                      clear hK K
                      try simp only [Act.put]
                      refine wpAnyG_take (i := 6) (v := ?_) rfl (by kernel_rfl) (fun _ _ _ h => h) (Or.inl ⟨by kernel_rfl, ?_⟩) (HScut.out _ Hv1.out) ?_
                      rotate_left
                      · intro w hSw; obtain ⟨hc0, hsq⟩ := hSw; go_simp; (try (with_reducible rfl))
                      try simp only [Act.put]
                      refine wpAnyG_ready (rs := [7]) (by kernel_rfl) (by simp) ?_
                      refine AllReadyG.cons rfl (fun K hK => ?_) AllReadyG.nil
                      rw [if_pos (by kernel_rfl)]
                      have HLv := Lib.hid (HLq.out.nob Hv1.out)
                      have hrow := HLv.out.row i g l (by rw [← Hrl.out, ← HLv0.out, List.getElem?_append_right (Nat.le_refl _), Nat.sub_self]; rfl) (by rw [← Hrl.out, List.getElem?_append_right (Nat.le_refl _), Nat.sub_self]; rfl)
                      obtain ⟨hgb, _, hgl⟩ := hrow
                      have k0 := hgb.cell (j := j) (x := l.getD j false) (getDb_some (by omega))
                      have kf := hgb.free j
                      have HLw := Lib.hid (HLv.out.put Hfr.out j x)
                      have hset : Chg (At1 g) v1 (v1.setCell ⟨g, j, none⟩ (.bool x)) := (Chg.refl (At1 g) v1).setCell (p := ⟨g, j, none⟩) (fun _ => rfl) _
                      have hne : ib ≠ g := fun e => by have h1 := Hv1.out.at Hib.out (fun e => e); rw [e] at h1; have h2 : v1.heap[g]? = some (.cells (bcells l) 4 (0, 0)) := hgb; rw [h2] at h1; simp at h1
                      have HV3 : Hid ((v1.setCell ⟨g, j, none⟩ (.bool x)).cell? ⟨ib, 0, none⟩ = some (.int .i64 (j : Int))) := (show _ = _ from hset.cell' (HScut.out _ Hv1.out).1 (fun e => hne e))
                      have HV4 : Hid ((v1.setCell ⟨g, j, none⟩ (.bool x)).cell? ⟨sb, 1, none⟩ = some (.slice am s.moves.length cm)) := (show _ = _ from hset.cell' (HScut.out _ Hv1.out).2 (fun e => by have e : sb = g := e; have := HgR.out; omega))
                      clear hset hne hgb hgl
                      go_simp
                      refine hK.out _ _ (fun h => absurd h (by decide)) ?_
                      clear hK K
                      try simp only [Act.put]
                      refine wpAnyG_done (by kernel_rfl) ?_ _
                      go_simp
                      clear hHeld k0 kf hc0 hsq
                      have hK2 := HV3.out
                      obtain ⟨V1, hV1⟩ : ∃ V1, V1 = v1.setCell ⟨g, j, none⟩ (.bool x) := ⟨_, rfl⟩
                      rw [← hV1] at HLw HV3 HV4 hK2 ⊢
                      have hvs : V1.heap.size = v1.heap.size := by rw [hV1, World.size_setCell]
                      have Hsw2 : Hid (sweepA R s.moves M np j (l.set j x) = T1) := (show _ = T1 by
                        have h1 := Hsw.out
                        rw [sweepA, updA, ← Hx.out] at h1
                        exact h1)
                      obtain ⟨E, hE, hcE, hbE, _⟩ := box_cells V1 #[.int .i64 ((j : Int) - 1)] 3
                      have HbE := Lib.hid hbE
                      have HLE := Lib.hid (HLw.out.nob hcE)
                      have HsE := Lib.hid (hcE.cell' HV4.out (fun e => e))
                      have Hm1 := Lib.hid (boxN_eq (cell_one' hbE))
                      have Hm2 : Hid (boxN (.pointer (some ⟨ib, 0, none⟩)) wr = j + 1) := (show _ = _ by rw [boxN_eq (cell_one' Hib.out)]; omega)
                      clear hV1 hbE hcE hvs
                      go_wp2_with fail
                      rw [← hE]
                      go_roundw
                      case rel => exact ⟨_, j, _, rfl, by omega, HbE, Hsw2, HLE, HsE⟩
                      case measure =>
                        show boxN _ _ < boxN _ _
                        rw [Hm1.out, Hm2.out]
                        omega
                · have hre : r = 2 := by omega
                  subst hre
                  have HLf : Hid (RunsL wr Y rb gr S.length (gs ++ [g]) (rowsI S M np (i + 1)) M.length) := (show RunsL wr Y rb gr S.length (gs ++ [g]) (rowsI S M np (i + 1)) M.length by
                    have h1 : l = T0 := Ht.out
                    rw [rowsI, ← HR.out, Hsd.out, ← HT0.out, ← h1]
                    exact HLr.out)
                  go_wp2_with fail
                  go_roundw
                  case rel => exact ⟨i + 1, _, by go_num, by omega, HLf⟩
                  case measure => simp [intOf]; omega
        · obtain rfl : i = S.length := by omega
          obtain ⟨⟨c0, c1⟩, d0, d1⟩ := HB.out wr0 (HXY.out.trans1 HL.out.chg)
          have hp := contains_sets (c := ci) (k := 40) (caps := #[.pointer (some ⟨rb, 0, none⟩)]) (s := fun l => allR (rowsI S M np S.length) l 0) hI HBw.out.sets (enters_of Tryz.func40 (by kernel_rfl) rfl) (fun k l hk W hW at' ct htr htl =>
            aall0_any (rows := rowsI S M np S.length) ((HL.out.nob hW).runs (by rw [rowsI_length]; exact Nat.le_refl _)) (by omega) (by have := Hl0.out.1; omega) (by omega) htr htl (fun x hx => by
              obtain ⟨jj, hjj, rfl⟩ := List.mem_iff_getElem.1 hx
              have h1 := Hfine.out.2.2.1 k (List.getElem?_eq_some_iff.1 hk).1
              rw [List.getD_eq_getElem?_getD, hk] at h1
              have h2 := h1 jj hjj
              unfold okAt at h2
              simp only [Option.getD_some] at h2
              rw [List.getD_eq_getElem?_getD, List.getElem?_eq_getElem hjj] at h2
              simp only [Option.getD_some] at h2
              rw [rowsI_length]
              omega))
          go_wp2_with fail
          (with_reducible refine hp.mono ?_)
          clear hp c0 c1 d0 d1
          rintro e w9 ⟨rfl, hc9⟩
          have Hfin : Hid (Chg Nob w w9) := (show Chg Nob w w9 from (HcX.out.trans1 (HXY.out.trans1 HL.out.chg)).trans1 hc9)
          clear hc9
          have Hlz : Hid (lc = 0) := (show lc = 0 from HlcZ.out)
          go_wp2_with fail
          refine bodyPost_ret (results_tmp2 rfl _ _ _) rfl ?_
          exact ⟨by rw [Hr.out, Hac.out, Hlz.out, ← Hnpe.out]; rfl, Hfin.out⟩
end
end Go.Proofs.YtkgfdgfhpdhhaaaGreat
namespace Go.Proofs.YtkgfdgfhpdhhaaaGreat
open Go.ChangeShapes Go.WideShapes Go.RowKit
attribute [local go_sem] Oper.semAt_some
set_option maxRecDepth 100000 in
set_option maxHeartbeats 2000000 in
theorem rnext_any {w : World} {ap al : Option Addr} {np cp nl cl : Nat} (hn : np + nl ≤ 10000) (i : Nat) (hi : i < np + nl) :
    Calls Tryz.prog 93 #[.agg #[.slice ap np cp, .slice al nl cl], .int .i64 (i : Int)] w fun e w' => e = .returned (.int .i64 (nextN np (np + nl) i : Nat)) ∧ Chg Nob w w' := by
  obtain ⟨X, hX, hcX, hb, _⟩ := box_cells w #[.slice ap np cp, .slice al nl cl] 28
  obtain ⟨c0, c1, _⟩ := cell_two hb
  rw [hX] at c0 c1
  have HcX : Hid (Chg Nob w X) := hcX
  clear hb hcX
  go_enter Tryz.func93, Tryz.ntmps93
  by_cases h : i + 1 = np + nl
  · have hi1 : ¬ (i : Int) + 1 < (np : Int) + (nl : Int) := by omega
    have hi2 : decide ((i : Int) + 1 < (np : Int) + (nl : Int)) = false := decide_eq_false hi1
    have e : nextN np (np + nl) i = np := if_pos h
    rw [e]
    clear h e
    go_wp2_with fail
    go_ret
    exact ⟨rfl, by rw [← hX]; exact HcX.out⟩
  · have hi1 : (i : Int) + 1 < (np : Int) + (nl : Int) := by omega
    have e : nextN np (np + nl) i = i + 1 := if_neg h
    rw [e]
    clear h e
    go_wp2_with fail
    go_ret
    exact ⟨by rw [Int.natCast_add]; rfl, by rw [← hX]; exact HcX.out⟩
def bitOk (yes no x : Int) (j : Nat) : Prop := ((yes / 2 ^ j) % 2 = 1 → (x / 2 ^ j) % 2 = 1) ∧ ((no / 2 ^ j) % 2 = 1 → (x / 2 ^ j) % 2 = 0)
def okU (x : Int) : Prop := 0 ≤ x ∧ x < 18446744073709551616
theorem bit_two {x : Int} (hx : okU x) (j : Nat) : ((x / 2 ^ j).tmod 2 = 0 ∧ (x / 2 ^ j) % 2 = 0) ∨ ((x / 2 ^ j).tmod 2 = 1 ∧ (x / 2 ^ j) % 2 = 1) := by
  have h1 : 0 ≤ x / 2 ^ j := Int.ediv_nonneg hx.1 (Int.le_of_lt (Int.pow_pos (by decide)))
  rw [Int.tmod_eq_emod_of_nonneg h1]
  omega
set_option maxRecDepth 100000 in
set_option maxHeartbeats 4000000 in
theorem rhas_loop (w : World) (yes no x : Int) (hy : okU yes) (hn : okU no) (hx : okU x) (b : Bool) (hb : b = true ↔ ∀ j, j < 64 → bitOk yes no x j) : Calls Tryz.prog 145 #[.agg #[.int .u64 yes, .int .u64 no], .int .u64 x] w fun e w' => e = .returned (.bool b) ∧ Chg Nob w w' := by
  obtain ⟨X, hX, hcX, hbX, _⟩ := box_cells w #[.int .u64 yes, .int .u64 no] 72
  obtain ⟨c0, c1, _⟩ := cell_two hbX
  have HcX : Hid (Chg Nob w X) := hcX
  have HB : Hid (∀ V, Chg Nob X V → V.cell? ⟨w.heap.size, 0, none⟩ = some (.int .u64 yes) ∧ V.cell? ⟨w.heap.size, 1, none⟩ = some (.int .u64 no)) := (show ∀ V, Chg Nob X V → _ ∧ _ from fun V hV => ⟨hV.cell' c0 (fun e => e), hV.cell' c1 (fun e => e)⟩)
  rw [hX] at c0 c1
  have Hb := Lib.hid hb
  have Hy := Lib.hid hy
  have Hn := Lib.hid hn
  have Hx := Lib.hid hx
  clear hcX hbX hb hy hn hx
  go_enter Tryz.func145, Tryz.ntmps145
  go_wp2_with fail
  rw [← hX]
  clear hX c0 c1
  go_loopw [5] (fun iv wr => ∃ i : Nat, iv = .int .i64 (i : Int) ∧ i ≤ 64 ∧ Hid (∀ j, j < i → bitOk yes no x j) ∧ Hid (Chg Nob X wr)) (fun iv _ => 64 - (intOf iv).toNat)
  case atStart => exact ⟨0, rfl, Nat.zero_le _, (by show ∀ j, j < 0 → _; intro j hj; omega), Chg.refl _ _⟩
  case round =>
    obtain ⟨i, rfl, hi, Hok, Hc⟩ := hrel
    obtain ⟨c0, c1⟩ := HB.out wr Hc.out
    by_cases hlt : i < 64
    · have hii : (i : Int) < 64 := by omega
      have hi0 : (0 : Int) ≤ (i : Int) := by omega
      have hx2 := bit_two Hx.out i
      have hy2 := bit_two Hy.out i
      have hn2 := bit_two Hn.out i
      have hbad : ¬ bitOk yes no x i → Hid (b = false) := fun h => Lib.hid (by
        cases hbb : b with
        | false => rfl
        | true => exact absurd (Hb.out.1 hbb i hlt) h)
      have hgood : bitOk yes no x i → Hid (∀ j, j < i + 1 → bitOk yes no x j) := fun h => Lib.hid (fun j hj => by
        by_cases e : j = i
        · subst e; exact h
        · exact Hok.out j (by omega))
      rcases hx2 with ⟨x1, x2⟩ | ⟨x1, x2⟩
      · rcases hy2 with ⟨y1, y2⟩ | ⟨y1, y2⟩
        · rcases hn2 with ⟨n1, n2⟩ | ⟨n1, n2⟩
          · have H2 := hgood ⟨fun h => by omega, fun h => by omega⟩
            clear hgood hbad x2 y2 n2
            go_wp2_with fail
            go_roundw
            case rel => exact ⟨i + 1, by go_num, by omega, H2, Hc⟩
            case measure => simp [intOf]; omega
          · have H2 := hgood ⟨fun h => by omega, fun h => by omega⟩
            clear hgood hbad x2 y2 n2
            go_wp2_with fail
            go_roundw
            case rel => exact ⟨i + 1, by go_num, by omega, H2, Hc⟩
            case measure => simp [intOf]; omega
        · rcases hn2 with ⟨n1, n2⟩ | ⟨n1, n2⟩
          · have H2 := hbad (fun h => by have h1 := h.1; have h2 := h.2; omega)
            clear hgood hbad x2 y2 n2
            go_wp2_with fail
            go_ret
            exact ⟨by rw [H2.out]; rfl, HcX.out.trans1 Hc.out⟩
          · have H2 := hbad (fun h => by have h1 := h.1; have h2 := h.2; omega)
            clear hgood hbad x2 y2 n2
            go_wp2_with fail
            go_ret
            exact ⟨by rw [H2.out]; rfl, HcX.out.trans1 Hc.out⟩
      · rcases hy2 with ⟨y1, y2⟩ | ⟨y1, y2⟩
        · rcases hn2 with ⟨n1, n2⟩ | ⟨n1, n2⟩
          · have H2 := hgood ⟨fun h => by omega, fun h => by omega⟩
            clear hgood hbad x2 y2 n2
            go_wp2_with fail
            go_roundw
            case rel => exact ⟨i + 1, by go_num, by omega, H2, Hc⟩
            case measure => simp [intOf]; omega
          · have H2 := hbad (fun h => by have h1 := h.1; have h2 := h.2; omega)
            clear hgood hbad x2 y2 n2
            go_wp2_with fail
            go_ret
            exact ⟨by rw [H2.out]; rfl, HcX.out.trans1 Hc.out⟩
        · rcases hn2 with ⟨n1, n2⟩ | ⟨n1, n2⟩
          · have H2 := hgood ⟨fun h => by omega, fun h => by omega⟩
            clear hgood hbad x2 y2 n2
            go_wp2_with fail
            go_roundw
            case rel => exact ⟨i + 1, by go_num, by omega, H2, Hc⟩
            case measure => simp [intOf]; omega
          · have H2 := hbad (fun h => by have h1 := h.1; have h2 := h.2; omega)
            clear hgood hbad x2 y2 n2
            go_wp2_with fail
            go_ret
            exact ⟨by rw [H2.out]; rfl, HcX.out.trans1 Hc.out⟩
    · obtain rfl : i = 64 := by omega
      have H2 : Hid (b = true) := (show b = true from Hb.out.2 Hok.out)
      go_wp2_with fail
      go_ret
      exact ⟨by rw [H2.out]; rfl, HcX.out.trans1 Hc.out⟩
def bvU (x : Int) : BitVec 64 := BitVec.ofInt 64 x
theorem bvU_nat {x : Int} (hx : okU x) : ((bvU x).toNat : Int) = x := by
  unfold bvU
  rw [BitVec.toNat_ofInt]
  have h1 := hx.1
  have h2 := hx.2
  rw [Int.emod_eq_of_lt h1 (by simpa using h2)]
  exact Int.toNat_of_nonneg h1
theorem bvU_bit {x : Int} (hx : okU x) (j : Nat) : (x / 2 ^ j) % 2 = 1 ↔ (bvU x).getLsbD j = true := by
  have h := bvU_nat hx
  rw [BitVec.getLsbD, Nat.testBit_eq_decide_div_mod_eq, decide_eq_true_eq]
  have e : (2 ^ j : Int) = ((2 ^ j : Nat) : Int) := by simp
  generalize (bvU x).toNat = n at *
  subst h
  rw [e, ← Int.natCast_ediv]
  omega
theorem bits_bv {x y : Int} : bits .and .u64 x y = ((bvU x &&& bvU y).toNat : Int) := by
  have hlt : (bvU x &&& bvU y).toNat < 2 ^ 64 := BitVec.isLt _
  show IntKind.wrap .u64 ((BitVec.ofInt 64 x &&& BitVec.ofInt 64 y).toNat : Int) = _
  have e : (BitVec.ofInt 64 x &&& BitVec.ofInt 64 y) = (bvU x &&& bvU y) := rfl
  rw [e]
  generalize (bvU x &&& bvU y).toNat = n at *
  have hw : IntKind.wrap .u64 (n : Int) = (n : Int) % 2 ^ 64 := rfl
  rw [hw]
  exact Int.emod_eq_of_lt (by omega) (by omega)
theorem hasI_iff {yes no x : Int} (hy : okU yes) (hn : okU no) (hx : okU x) : hasI yes no x = true ↔ ∀ j, j < 64 → bitOk yes no x j := by
  have h1 : (bits .and .u64 x yes = yes) ↔ bvU x &&& bvU yes = bvU yes := by
    rw [bits_bv]
    constructor
    · intro h
      apply BitVec.eq_of_toNat_eq
      have := bvU_nat hy
      omega
    · intro h; rw [h]; exact bvU_nat hy
  have h2 : (bits .and .u64 x no = 0) ↔ bvU x &&& bvU no = 0#64 := by
    rw [bits_bv]
    constructor
    · intro h
      apply BitVec.eq_of_toNat_eq
      rw [BitVec.toNat_ofNat]
      omega
    · intro h; rw [h]; rfl
  unfold hasI
  rw [Bool.and_eq_true, beq_iff_eq, beq_iff_eq, h1, h2]
  unfold bitOk
  constructor
  · rintro ⟨a, b⟩ j hj
    refine ⟨fun h => ?_, fun h => ?_⟩
    · rw [bvU_bit hx]
      rw [bvU_bit hy, ← a, BitVec.getLsbD_and, Bool.and_eq_true] at h
      exact h.1
    · have h3 := (bvU_bit hn j).1 h
      have h4 : (bvU x &&& bvU no).getLsbD j = false := by rw [b]; simp
      rw [BitVec.getLsbD_and, h3, Bool.and_true] at h4
      have h5 : ¬ (x / 2 ^ j) % 2 = 1 := fun h5 => by rw [(bvU_bit hx j).1 h5] at h4; cases h4
      omega
  · intro h
    refine ⟨?_, ?_⟩
    · apply BitVec.eq_of_getLsbD_eq
      intro j hj
      rw [BitVec.getLsbD_and]
      cases hb : (bvU yes).getLsbD j with
      | false => simp
      | true => rw [(bvU_bit hx j).1 ((h j hj).1 ((bvU_bit hy j).2 hb))]; rfl
    · apply BitVec.eq_of_getLsbD_eq
      intro j hj
      rw [BitVec.getLsbD_and]
      cases hb : (bvU no).getLsbD j with
      | false => simp
      | true =>
        have h6 := (h j hj).2 ((bvU_bit hn j).2 hb)
        cases hb2 : (bvU x).getLsbD j with
        | false => simp
        | true => have := (bvU_bit hx j).2 hb2; omega
theorem rhas_any (w : World) (yes no x : Int) (hy : okU yes) (hn : okU no) (hx : okU x) : Calls Tryz.prog 145 #[.agg #[.int .u64 yes, .int .u64 no], .int .u64 x] w fun e w' => e = .returned (.bool (hasI yes no x)) ∧ Chg Nob w w' :=
  rhas_loop w yes no x hy hn hx _ (hasI_iff hy hn hx)
end Go.Proofs.YtkgfdgfhpdhhaaaGreat
