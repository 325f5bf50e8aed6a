/- A formula that is known: its text, its normal form, plain. Conditions: none. What is known of one formula. Conditions: none. What every law's frame needs. Conditions: as each theorem states. -/
import Derived.Test.YtkgfdgfhpdhhaaaGreatGtext
import Derived.Test.YtkgfdgfhpdhhaaaGreatNormal
import Derived.Test.YtkgfdgfhpdhhaaaGreatPnames
import Derived.Test.YtkgfdgfhpdhhaaaGreatParse
import Derived.Test.YtkgfdgfhpdhhaaaGreatPrint
import Derived.Test.YtkgfdgfhpdhhaaaGreatOpen
import Derived.Test.YtkgfdgfhpdhhaaaGreatRsame
import Derived.ShutString
namespace Go.Proofs.YtkgfdgfhpdhhaaaGreat

def nameP : T := .node 3 [112] []
def nameQ : T := .node 3 [113] []
def nameR : T := .node 3 [114] []
def tK : T := .node 10 [] [.node 4 [] [.node 14 [] [nameP, nameQ]], .node 6 [] [.node 7 [] [nameR]]]
def tN : T := .node 9 [] [.node 13 [] [nameQ, .node 9 [] [nameP, nameQ]], .node 13 [] [.node 2 [] [], .node 12 [] [.node 1 [] [], nameR]]]
def sK : List UInt8 := [33, 40, 112, 32, 87, 32, 113, 41, 32, 45, 62, 32, 91, 93, 32, 60, 62, 114]
def lK : List Tok := [([33], 0), ([40], 1), ([112], 2), ([87], 4), ([113], 6), ([41], 7), ([45, 62], 9), ([91, 93], 12), ([60, 62], 15), ([114], 17)]
theorem toks_K : toks 0 sK = .ok lK := by rfl
theorem tk_K : tk tK = lK.map (·.1) := by
  simp [tK, nameP, nameQ, nameR, tk, tkL, wk, preW, opText, leftK, rightK, rankK, lK]
theorem may_K : mayT tK = true := by
  simp [tK, nameP, nameQ, nameR, mayT, mayL, okNode, kidsOf]
  decide
theorem depth_K : depthT tK = 4 := by
  simp [tK, nameP, nameQ, nameR, depthT, depthL]
theorem size_K : sizeT tK = 8 := by
  simp [tK, nameP, nameQ, nameR, sizeT, sizeL]
theorem PR_K : PR sK (.ok tK) := by
  have hk := text_okl tK may_K 0 (by omega) (by decide) lK tk_K.symm
  exact .ok (by decide) toks_K (hk.ok (by omega) (rest := [([], 18)]) ⟨_, _, rfl, fun m _ _ => no_op_end m⟩) rfl (by rw [depth_K]; omega)
theorem check_K : checkN tK = 0 := by
  unfold checkN
  rw [may_K, depth_K]; rfl
theorem text_K : textT tK = [33, 40, 112, 32, 87, 32, 113, 41, 32, 45, 62, 32, 91, 93, 32, 60, 62, 32, 114] := by
  simp [tK, nameP, nameQ, nameR, textT, textL, within, preText, opText, leftK, rightK, rankK]
theorem nf_K : nfT tK false = tN := by
  simp [tK, tN, nameP, nameQ, nameR, nfT, nfL, flipK]
theorem may_N : mayT tN = true := by
  simp [tN, nameP, nameQ, nameR, mayT, mayL, okNode, kidsOf]
  decide
theorem depth_N : depthT tN = 4 := by
  simp [tN, nameP, nameQ, nameR, depthT, depthL]
theorem size_N : sizeT tN = 11 := by
  simp [tN, nameP, nameQ, nameR, sizeT, sizeL]
theorem check_N : checkN tN = 0 := by
  unfold checkN
  rw [may_N, depth_N]; rfl
theorem text_N : textT tN = [113, 32, 86, 32, 40, 112, 32, 124, 124, 32, 113, 41, 32, 124, 124, 32, 102, 97, 108, 115, 101, 32, 86, 32, 116, 114, 117, 101, 32, 85, 32, 114] := by
  simp [tN, nameP, nameQ, nameR, textT, textL, within, opText, leftK, rightK, rankK]
theorem norm_K : normN tK = 0 ∧ normT tK = tN := by
  have h : normN tK = 0 := by
    unfold normN
    rw [check_K, nf_K, size_N]; rfl
  exact ⟨h, by rw [normT, if_pos h, nf_K]⟩
theorem plain_K : plainB tK = false := by
  unfold plainB
  rw [may_K]
  simp [tK, nameP, nameQ, nameR, allT, allL, plainOk, T.kind]
theorem plain_N : plainB tN = true := by
  unfold plainB
  rw [may_N]
  simp [tN, nameP, nameQ, nameR, allT, allL, plainOk, T.kind]
theorem names_K : namesT tK = [[112], [113], [114]] := by
  have e : pnames (allT tK) = [[112], [113], [114]] := by
    simp [tK, nameP, nameQ, nameR, allT, allL, pnames, T.kind, T.name]
  unfold namesT
  rw [e, List.mergeSort_of_pairwise (by decide)]
  decide
theorem print_K : printN tK = 0 ∧ printT tK = [33, 40, 112, 32, 87, 32, 113, 41, 32, 45, 62, 32, 91, 93, 32, 60, 62, 32, 114] := by
  unfold printN printT
  rw [check_K, text_K]
  exact ⟨rfl, rfl⟩
theorem print_N : printN tN = 0 ∧ printT tN = [113, 32, 86, 32, 40, 112, 32, 124, 124, 32, 113, 41, 32, 124, 124, 32, 102, 97, 108, 115, 101, 32, 86, 32, 116, 114, 117, 101, 32, 85, 32, 114] := by
  unfold printN printT
  rw [check_N, text_N]
  exact ⟨rfl, rfl⟩
end Go.Proofs.YtkgfdgfhpdhhaaaGreat
namespace Go.Proofs.YtkgfdgfhpdhhaaaGreat
open Go.ChangeShapes Go.WideShapes Go.RowKit

/-- A formula that is read is its text's. -/
theorem parse_ok {s : List UInt8} {t : T} {w w' : World} {e : Ending} (hp : PR s (.ok t)) (h : ParsePost s w e w') : Chg Nob w w' ∧ ∃ ao cap, Fresh (Ge w.heap.size) w' t (.agg #[.int .i64 t.kind, .string ⟨t.name.toArray⟩, .slice ao t.kids.length cap]) ∧ e = .returned (.tuple #[.agg #[.int .i64 t.kind, .string ⟨t.name.toArray⟩, .slice ao t.kids.length cap], .agg #[.int .i64 0, .int .i64 0]]) := by
  obtain ⟨hc, r, hr, he⟩ := h
  cases PR_det hp hr
  obtain ⟨v, hF, rfl⟩ := he
  obtain ⟨ao, cap, rfl⟩ := hF.agg
  exact ⟨hc, ao, cap, hF, rfl⟩
theorem parse_err {s : List UInt8} {x : Int × Nat} {w w' : World} {e : Ending} (hp : PR s (.err x)) (h : ParsePost s w e w') : Chg Nob w w' ∧ e = .returned (.tuple #[.agg #[.int .i64 0, .string ⟨#[]⟩, .slice none 0 0], .agg #[.int .i64 x.1, .int .i64 x.2]]) := by
  obtain ⟨hc, r, hr, he⟩ := h
  cases PR_det hp hr
  exact ⟨hc, he⟩
theorem norm_post {t : T} {w w' : World} {e : Ending} (h : NormPost t w e w') : Chg Nob w w' ∧ ∃ ao cap, Fresh (Ge w.heap.size) w' (normT t) (.agg #[.int .i64 (normT t).kind, .string ⟨(normT t).name.toArray⟩, .slice ao (normT t).kids.length cap]) ∧ e = .returned (.tuple #[.agg #[.int .i64 (normT t).kind, .string ⟨(normT t).name.toArray⟩, .slice ao (normT t).kids.length cap], .int .i64 (normN t)]) := by
  obtain ⟨hc, v, hF, rfl⟩ := h
  obtain ⟨ao, cap, rfl⟩ := hF.agg
  exact ⟨hc, ao, cap, hF, rfl⟩

set_option maxRecDepth 100000 in
set_option maxHeartbeats 4000000 in
theorem known_any (w : World) : Calls Tryz.prog 15 #[] w fun e w' => e = .returned (.bool true) ∧ Chg Nob w w' := by
  have hp : Calls Tryz.prog 42 #[.string ⟨#[33, 40, 112, 32, 87, 32, 113, 41, 32, 45, 62, 32, 91, 93, 32, 60, 62, 114]⟩] w _ := (Parse_any sK w).mono (fun _ _ h => parse_ok PR_K h)
  go_enter Tryz.func15, Tryz.ntmps15
  go_wp2_with fail
  (with_reducible refine hp.mono ?_)
  clear hp
  rintro e w1 ⟨hc1, ao, cap, hF, rfl⟩
  have hkind : tK.kind = 10 := rfl
  have hname : tK.name = [] := rfl
  have hlen : tK.kids.length = 2 := rfl
  rw [hkind, hname, hlen] at hF ⊢
  have ht1 := hF.tree
  have hB : Hid (∃ W, W = (w1.alloc (.cells #[.int .i64 10, .string ⟨#[]⟩, .slice ao 2 cap] 24)).alloc (.cells #[.int .i64 0, .int .i64 0] 83) ∧ Chg Nob w1 W ∧ W.heap.size = w1.heap.size + 2 ∧ W.heap[w1.heap.size]? = some (.cells #[.int .i64 10, .string ⟨#[]⟩, .slice ao 2 cap] 24 (0, 0)) ∧ W.heap[w1.heap.size + 1]? = some (.cells #[.int .i64 0, .int .i64 0] 83 (0, 0))) := by
    have h1 := heap_alloc_new (w1.alloc (.cells #[.int .i64 10, .string ⟨#[]⟩, .slice ao 2 cap] 24)) (.cells #[.int .i64 0, .int .i64 0] 83)
    rw [World.size_alloc] at h1
    exact ⟨_, rfl, ((Chg.refl _ _).alloc _).alloc _, by rw [World.size_alloc, World.size_alloc], ((Chg.refl Nob _).alloc _).at (heap_alloc_new w1 _) (fun e => e), h1⟩
  have Ht1 := Lib.hid ht1
  clear hkind hname hlen hF ht1
  go_wp2_with fail
  obtain ⟨W1, hWe, hcW, hsW, hb0, hb1⟩ := hB.out
  rw [← hWe]
  clear hB hWe
  have hz1 := hc1.size
  have hcw := hc1.trans1 hcW
  have HtW := Lib.hid (Ht1.out.nob hcW)
  have HsW := Lib.hid hsW
  have Hb0 := Lib.hid hb0
  have Hb1 := Lib.hid hb1
  obtain ⟨c0, c1, c2, _⟩ := cells_three hb0
  clear Ht1 hcW hsW hb0 hb1
  have hp : Calls Tryz.prog 43 #[.agg #[.int .i64 10, .string ⟨#[]⟩, .slice ao 2 cap]] W1 fun e w' => e = .returned (.tuple #[.string ⟨#[33, 40, 112, 32, 87, 32, 113, 41, 32, 45, 62, 32, 91, 93, 32, 60, 62, 32, 114]⟩, .int .i64 0]) ∧ Chg Nob W1 w' := by
    have := Print_any _ tK _ W1 HtW.out (by rw [size_K]; omega) (fun b hb => by have := hb.2; have := HsW.out; omega)
    rwa [print_K.1, print_K.2] at this
  go_wp2_with fail
  (with_reducible refine hp.mono ?_)
  clear hp c0 c1 c2
  rintro e w2 ⟨rfl, hc2⟩
  obtain ⟨c0, c1, c2, _⟩ := cells_three (hc2.at Hb0.out (fun e => e))
  have hz2 := hc2.size
  have hp := (Normal_any _ tK _ w2 (HtW.out.nob hc2) (by rw [size_K]; omega) (fun b hb => by have := hb.2; have := HsW.out; omega)).mono (fun _ _ h => norm_post h)
  rw [norm_K.1, norm_K.2] at hp
  have hkind : tN.kind = 9 := rfl
  have hname : tN.name = [] := rfl
  have hlen : tN.kids.length = 2 := rfl
  rw [hkind, hname, hlen] at hp
  clear hkind hname hlen
  go_wp2_with fail
  (with_reducible refine hp.mono ?_)
  clear hp c0 c1 c2
  rintro e w3 ⟨hc3, ao3, cap3, hF3, rfl⟩
  have Ht3 := Lib.hid hF3.tree
  clear hF3
  have hcA : Chg Nob w3 (w3.alloc (.cells #[.int .i64 9, .string ⟨#[]⟩, .slice ao3 2 cap3] 24)) := (Chg.refl _ _).alloc _
  have hbA := heap_alloc_new w3 (.cells #[.int .i64 9, .string ⟨#[]⟩, .slice ao3 2 cap3] 24)
  have hsA : (w3.alloc (.cells #[.int .i64 9, .string ⟨#[]⟩, .slice ao3 2 cap3] 24)).heap.size = w3.heap.size + 1 := World.size_alloc _ _
  have hp : Calls Tryz.prog 43 #[.agg #[.int .i64 9, .string ⟨#[]⟩, .slice ao3 2 cap3]] (w3.alloc (.cells #[.int .i64 9, .string ⟨#[]⟩, .slice ao3 2 cap3] 24)) fun e w' => e = .returned (.tuple #[.string ⟨#[113, 32, 86, 32, 40, 112, 32, 124, 124, 32, 113, 41, 32, 124, 124, 32, 102, 97, 108, 115, 101, 32, 86, 32, 116, 114, 117, 101, 32, 85, 32, 114]⟩, .int .i64 0]) ∧ Chg Nob (w3.alloc (.cells #[.int .i64 9, .string ⟨#[]⟩, .slice ao3 2 cap3] 24)) w' := by
    have := Print_any _ tN _ _ (Ht3.out.nob hcA) (by rw [size_N]; omega) (fun b hb => by have := hb.2; omega)
    rwa [print_N.1, print_N.2] at this
  obtain ⟨d0, d1, d2, _⟩ := cells_three hbA
  have HbA := Lib.hid hbA
  have HsA := Lib.hid hsA
  clear hbA hsA
  go_wp2_with fail
  generalize w3.alloc (.cells #[.int .i64 9, .string ⟨#[]⟩, .slice ao3 2 cap3] 24) = W3 at *
  (with_reducible refine hp.mono ?_)
  clear hp d0 d1 d2
  rintro e w4 ⟨rfl, hc4⟩
  have hc14 : Chg Nob W1 w4 := ((hc2.trans1 hc3).trans1 hcA).trans1 hc4
  obtain ⟨c0, c1, c2, _⟩ := cells_three (hc14.at Hb0.out (fun e => e))
  have hz14 := hc14.size
  have hz3 := hc3.size
  have hz4 := hc4.size
  have hp := names_any _ tK _ w4 (HtW.out.nob hc14) (by rw [size_K]; omega) (fun b hb => by have := hb.2; have := HsW.out; omega)
  unfold NamesPost at hp
  rw [names_K] at hp
  go_wp2_with fail
  (with_reducible refine hp.mono ?_)
  clear hp c0 c1 c2
  rintro e w5 ⟨hc5, sl, rfl, a5, cp5, rfl, _, hcells⟩
  obtain ⟨g5, o5, rfl, hr⟩ := hcells 2 [114] rfl
  have hc15 := hc14.trans1 hc5
  have hc35 := hc4.trans1 hc5
  obtain ⟨c0, c1, c2, _⟩ := cells_three (hc15.at Hb0.out (fun e => e))
  obtain ⟨d0, d1, d2, _⟩ := cells_three (hc35.at HbA.out (fun e => e))
  obtain ⟨e0, e1, _⟩ := cell_two (hc15.at Hb1.out (fun e => e))
  have hz5 := hc5.size
  have hpN : Calls Tryz.prog 46 #[.agg #[.int .i64 9, .string ⟨#[]⟩, .slice ao3 2 cap3]] w5 fun e w' => e = .returned (.bool true) ∧ Chg Nob w5 w' := by
    have := plain_any _ tN _ w5 ((Ht3.out.nob hcA).nob hc35) (by rw [size_N]; omega) (fun b hb => by have := hb.2; have := HsA.out; omega)
    rwa [plain_N] at this
  have hpK : ∀ X, Chg Nob w5 X → Calls Tryz.prog 46 #[.agg #[.int .i64 10, .string ⟨#[]⟩, .slice ao 2 cap]] X fun e w' => e = .returned (.bool false) ∧ Chg Nob X w' := fun X hX => by
    have := plain_any _ tK _ X (HtW.out.nob (hc15.trans1 hX)) (by rw [size_K]; omega) (fun b hb => by have := hb.2; have := HsW.out; have := hX.size; omega)
    rwa [plain_K] at this
  have hsK : ∀ X, Chg Nob w5 X → Calls Tryz.prog 47 #[.agg #[.int .i64 10, .string ⟨#[]⟩, .slice ao 2 cap]] X fun e w' => e = .returned (.int .i64 8) ∧ Chg Nob X w' := fun X hX => by
    have := size_any _ tK _ X (HtW.out.nob (hc15.trans1 hX)) (by rw [size_K]; omega) (fun b hb => by have := hb.2; have := HsW.out; have := hX.size; omega)
    rwa [size_K] at this
  have HpK := Lib.hid hpK
  have HsK := Lib.hid hsK
  have HpN := Lib.hid hpN
  clear hpK hsK hpN hcells
  go_wp2_with fail
  (with_reducible refine HpN.out.mono ?_)
  clear c0 c1 c2 d0 d1 d2 e0 e1
  rintro e w6 ⟨rfl, hc6⟩
  obtain ⟨c0, c1, c2, _⟩ := cells_three ((hc15.trans1 hc6).at Hb0.out (fun e => e))
  go_wp2_with fail
  (with_reducible refine (HpK.out _ hc6).mono ?_)
  clear c0 c1 c2
  rintro e w7 ⟨rfl, hc7⟩
  obtain ⟨c0, c1, c2, _⟩ := cells_three (((hc15.trans1 hc6).trans1 hc7).at Hb0.out (fun e => e))
  go_wp2_with fail
  (with_reducible refine (HsK.out _ (hc6.trans1 hc7)).mono ?_)
  clear c0 c1 c2
  rintro e w8 ⟨rfl, hc8⟩
  go_wp2
  go_ret
  exact ⟨rfl, (((hcw.trans1 hc15).trans1 hc6).trans1 hc7).trans1 hc8⟩
end Go.Proofs.YtkgfdgfhpdhhaaaGreat
namespace Go.Proofs.YtkgfdgfhpdhhaaaGreat
open Go.ChangeShapes Go.WideShapes Go.RowKit

theorem own : ownKnob Tryz.prog.godebug = none := by kernel_rfl
theorem laidOut : laidOutB Tryz.prog = true := by kernel_rfl
theorem text_of (s : ByteArray) : ∃ l : List UInt8, s = ⟨l.toArray⟩ := ⟨s.data.toList, by cases s; simp⟩
theorem tree_zero {R : Nat → Prop} {w : World} : IsTree R w (.node 0 [] []) (.agg #[.int .i64 0, .string ⟨#[]⟩, .slice none 0 0]) := by
  rw [IsTree]
  exact ⟨none, 0, rfl, by simp, by rw [IsKids]; trivial⟩
/-- A tree that isn't too great. -/
theorem great_size {t : T} (h : ¬ greatT t 100000 ≤ 0) : sizeT t ≤ 100000 := by
  have := greatT_pos t 100000 (by omega) (by omega)
  have := greatT_le t 100000 (by omega)
  omega
/-- A comparison of two formulas that are the same. -/
theorem same_refl {R1 R2 : Nat → Prop} {t : T} {v1 v2 : Value} {w : World} (h1 : IsTree R1 w t v1) (h2 : IsTree R2 w t v2) : Calls Tryz.prog 138 #[v1, v2] w fun e w' => e = .returned (.bool true) ∧ Chg Nob w w' := by
  have := same_any t R1 R2 t v1 v2 w h1 h2
  rwa [sameT_refl] at this
theorem rsame_refl {R1 R2 : Nat → Prop} {t : T} {v1 v2 : Value} {w : World} (h1 : IsTree R1 w t v1) (h2 : IsTree R2 w t v2) : Calls Tryz.prog 18 #[v1, v2] w fun e w' => e = .returned (.bool true) ∧ Chg Nob w w' := by
  have := rsame_any t R1 R2 t v1 v2 w h1 h2
  rwa [sameT_refl] at this
/-- Two boxes: a formula's, a mishap's. -/
theorem boxes_two (w : World) (a0 a1 a2 m0 m1 : Value) : ∃ X, X = (w.alloc (.cells #[a0, a1, a2] 24)).alloc (.cells #[m0, m1] 83) ∧ Chg Nob w X ∧ X.heap[w.heap.size]? = some (.cells #[a0, a1, a2] 24 (0, 0)) ∧ X.heap[w.heap.size + 1]? = some (.cells #[m0, m1] 83 (0, 0)) := by
  have h1 := heap_alloc_new (w.alloc (.cells #[a0, a1, a2] 24)) (.cells #[m0, m1] 83)
  rw [World.size_alloc] at h1
  exact ⟨_, rfl, ((Chg.refl _ _).alloc _).alloc _, ((Chg.refl Nob _).alloc _).at (heap_alloc_new w _) (fun e => e), h1⟩
/-- The blocks that a new formula lies in. -/
theorem Fresh.in_ {lo : Nat} {W : World} {t : T} {v : Value} (h : Fresh (Ge lo) W t v) : IsTree (fun b => lo ≤ b ∧ b < W.heap.size) W t v := h.tree
end Go.Proofs.YtkgfdgfhpdhhaaaGreat
