/- The law LassoWords: whatever the lassos and the place, it returns true. No condition. -/
import Derived.Test.YtkgfdgfhpdhhaaaTabk
import Derived.Test.YtkgfdgfhpdhhaaaLopen
import Derived.Test.YtkgfdgfhpdhhaaaRcanon
import Derived.Test.YtkgfdgfhpdhhaaaRlsame
import Derived.Test.YtkgfdgfhpdhhaaaRsuf
namespace Go.Proofs.Ytkgfdgfhpdhhaaa.lassoWords
open Go.ChangeShapes Go.WideShapes Go.ChangeAt Go.RowKit

theorem own : ownKnob Try.prog.godebug = none := by kernel_rfl
theorem laidOut : laidOutB Try.prog = true := by kernel_rfl
def LasX (W : World) (v : Value) (l : Option Addr × Nat × List Int × Option Addr × Nat × List Int) : Prop := LasIn W v l.1 l.2.1 l.2.2.1 l.2.2.2.1 l.2.2.2.2.1 l.2.2.2.2.2
set_option maxRecDepth 100000 in
theorem open_las {H : Type} {enc : TypeId × Value → H} {W : World} {b0 : Nat} {v : Value} {d : DataW H} {p : List MemPlace} (hv : Value.okWide Try.prog W .any b0 24 v) (h : DataW.Trod enc Try.prog W 0 (fun _ => true) true 24 v d p) (hw : ∀ k, k ∈ d.weights Try.prog 24 → k ≤ reachBytes) : ∃ l, LasX W v l := by
  obtain ⟨ap, cp, P, al, cl, L, h⟩ := open_lasso hv h hw
  exact ⟨(ap, cp, P, al, cl, L), h⟩
theorem suf_len (P L : List Int) (i : Nat) : (sufP P L i).length + (sufL P L i).length ≤ P.length + L.length := by
  unfold sufP sufL
  split
  · unfold turned
    simp only [List.length_drop, List.length_append, List.length_take]
    omega
  · simp
theorem can_len {P L P' L' : List Int} (h : lcheckN P.length L.length = 0 → IsCanon P L P' L') (h' : lcheckN P.length L.length ≠ 0 → P' = [] ∧ L' = []) : P'.length + L'.length ≤ P.length + L.length := by
  by_cases h0 : lcheckN P.length L.length = 0
  · have hl := (lcheck_ok (np := P.length) (nl := L.length) (by rw [h0]; rfl)).1
    have := (h h0).small (fun e => by rw [e] at hl; exact absurd hl (by decide))
    omega
  · obtain ⟨rfl, rfl⟩ := h' h0
    simp
theorem can_det {P L P' L' P2 L2 : List Int} (h : lcheckN P.length L.length = 0 → IsCanon P L P' L') (h' : lcheckN P.length L.length ≠ 0 → P' = [] ∧ L' = []) (k : lcheckN P.length L.length = 0 → IsCanon P L P2 L2) (k' : lcheckN P.length L.length ≠ 0 → P2 = [] ∧ L2 = []) : P' = P2 ∧ L' = L2 := by
  by_cases h0 : lcheckN P.length L.length = 0
  · exact (h h0).det (k h0)
  · obtain ⟨rfl, rfl⟩ := h' h0
    obtain ⟨rfl, rfl⟩ := k' h0
    exact ⟨rfl, rfl⟩
theorem boxes_law (w : World) (x y z u : Value) : ∃ X, X = (w.alloc (.cells #[x, y] 24)).alloc (.cells #[z, u] 24) ∧ Chg Nob w X ∧ X.heap.size = w.heap.size + 2 ∧ X.heap[w.heap.size]? = some (.cells #[x, y] 24 (0, 0)) ∧ X.heap[w.heap.size + 1]? = some (.cells #[z, u] 24 (0, 0)) := by
  have h1 := heap_alloc_new (w.alloc (.cells #[x, y] 24)) (.cells #[z, u] 24)
  rw [World.size_alloc] at h1
  exact ⟨_, rfl, ((Chg.refl _ _).alloc _).alloc _, by rw [World.size_alloc, World.size_alloc], ((Chg.refl Nob _).alloc _).at (heap_alloc_new w _) (fun e => e), h1⟩
theorem box_law (w : World) (x y : Value) : ∃ X, X = w.alloc (.cells #[x, y] 24) ∧ Chg Nob w X ∧ X.cell? ⟨w.heap.size, 0, none⟩ = some x ∧ X.cell? ⟨w.heap.size, 1, none⟩ = some y := by
  have h := cell_two (heap_alloc_new w (.cells #[x, y] 24))
  exact ⟨_, rfl, (Chg.refl _ _).alloc _, h.1, h.2.1⟩

set_option maxRecDepth 100000 in
set_option maxHeartbeats 8000000 in
theorem walk (v0 : Value) (l0 : Option Addr × Nat × List Int × Option Addr × Nat × List Int) (v1 : Value) (l1 : Option Addr × Nat × List Int × Option Addr × Nat × List Int) (a : Int) (hw : (Lit.int .u64 a).wf = true) (w : World) (k0 : LasX w v0 l0) (k1 : LasX w v1 l1) :
    Calls Try.prog 3 #[v0, v1, .int .u64 a] w fun e w' => e = .returned (.bool true) ∧ Below w.heap.size w w' := by
  obtain ⟨ap, cp, P, al, cl, L⟩ := l0
  obtain ⟨bp, dp, Q, bl, dl, M⟩ := l1
  obtain ⟨rfl, hcp, hcl, hmp, hml, hP, hL, _, _⟩ := k0
  obtain ⟨rfl, hdp, hdl, hmq, hmm, hQ, hM, _, _⟩ := k1
  simp only at hcp hcl hmp hml hP hL hdp hdl hmq hmm hQ hM ⊢
  obtain ⟨h0, h1⟩ := bounds_u64 hw
  obtain ⟨i, rfl⟩ : ∃ i : Nat, a = (i : Int) := ⟨a.toNat, by omega⟩
  have hi : i < 18446744073709551616 := by omega
  obtain ⟨X, hX, hcX, hsX, hb0, hb1⟩ := boxes_law w (.slice ap P.length cp) (.slice al L.length cl) (.slice bp Q.length dp) (.slice bl M.length dl)
  obtain ⟨c0, c1, _⟩ := cell_two hb0
  obtain ⟨d0, d1, _⟩ := cell_two hb1
  have HcX := Lib.hid hcX
  have HP := Lib.hid (hP.nob hcX)
  have HL := Lib.hid (hL.nob hcX)
  have HQ := Lib.hid (hQ.nob hcX)
  have HM := Lib.hid (hM.nob hcX)
  have Hi := Lib.hid hi
  have HB : Hid (∀ W, Chg Nob X W → (W.cell? ⟨w.heap.size, 0, none⟩ = some (.slice ap P.length cp) ∧ W.cell? ⟨w.heap.size, 1, none⟩ = some (.slice al L.length cl)) ∧ W.cell? ⟨w.heap.size + 1, 0, none⟩ = some (.slice bp Q.length dp) ∧ W.cell? ⟨w.heap.size + 1, 1, none⟩ = some (.slice bl M.length dl)) := (show ∀ W, Chg Nob X W → (W.cell? ⟨w.heap.size, 0, none⟩ = some (.slice ap P.length cp) ∧ W.cell? ⟨w.heap.size, 1, none⟩ = some (.slice al L.length cl)) ∧ W.cell? ⟨w.heap.size + 1, 0, none⟩ = some (.slice bp Q.length dp) ∧ W.cell? ⟨w.heap.size + 1, 1, none⟩ = some (.slice bl M.length dl) from fun W h => ⟨⟨h.cell' c0 (fun e => e), h.cell' c1 (fun e => e)⟩, h.cell' d0 (fun e => e), h.cell' d1 (fun e => e)⟩)
  rw [hX] at c0 c1 d0 d1
  clear hcX hP hL hQ hM hb0 hb1 hw h0 h1 hi
  have hfit1 : P.length + L.length ≤ 2251799813685248 := by omega
  have hfit2 : Q.length + M.length ≤ 2251799813685248 := by omega
  go_enter Try.func3, Try.ntmps3
  by_cases hbig : 5000 < P.length + L.length
  · have hb1 : (5000 : Int) < (P.length : Int) + (L.length : Int) := by omega
    go_wp2_with fail
    rw [← hX]
    go_wp2_with fail
    (with_reducible refine (known_lasso _).mono ?_)
    rintro e w3 ⟨rfl, hc3⟩
    go_wp2
    go_ret
    exact ⟨rfl, (HcX.out.trans1 hc3).toBelow⟩
  · have hb1 : ¬ (5000 : Int) < (P.length : Int) + (L.length : Int) := by omega
    have hb1d : decide ((5000 : Int) < (P.length : Int) + (L.length : Int)) = false := decide_eq_false hb1
    by_cases hbig2 : 5000 < Q.length + M.length
    · have hb2 : (5000 : Int) < (Q.length : Int) + (M.length : Int) := by omega
      go_wp2_with fail
      rw [← hX]
      go_wp2_with fail
      (with_reducible refine (known_lasso _).mono ?_)
      rintro e w3 ⟨rfl, hc3⟩
      go_wp2
      go_ret
      exact ⟨rfl, (HcX.out.trans1 hc3).toBelow⟩
    · have hb2 : ¬ (5000 : Int) < (Q.length : Int) + (M.length : Int) := by omega
      have hb2d : decide ((5000 : Int) < (Q.length : Int) + (M.length : Int)) = false := decide_eq_false hb2
      have hl1 : P.length + L.length ≤ 10000 := by omega
      have hl2 : Q.length + M.length ≤ 10000 := by omega
      obtain ⟨code, hcode⟩ : ∃ c, c = lcheckN P.length L.length := ⟨_, rfl⟩
      have Hcode := Lib.hid hcode
      have Q13 : Hid (∀ W, Chg Nob X W → Calls Try.prog 13 #[.agg #[.slice ap P.length cp, .slice al L.length cl], .int .u64 (i : Int)] W (LasPost (sufP P L i) (sufL P L i) code W)) := (show ∀ W, Chg Nob X W → Calls Try.prog 13 #[.agg #[.slice ap P.length cp, .slice al L.length cl], .int .u64 (i : Int)] W (LasPost (sufP P L i) (sufL P L i) code W) from fun W h => hcode ▸ lsuffix_any hl1 hcp hcl (HP.out.nob h) (HL.out.nob h) i Hi.out)
      have Q14 : Hid (∀ W, Chg Nob X W → Calls Try.prog 14 #[.agg #[.slice ap P.length cp, .slice al L.length cl], .int .u64 (i : Int)] W (LasPost (sufP P L i) (sufL P L i) code W)) := (show ∀ W, Chg Nob X W → Calls Try.prog 14 #[.agg #[.slice ap P.length cp, .slice al L.length cl], .int .u64 (i : Int)] W (LasPost (sufP P L i) (sufL P L i) code W) from fun W h => hcode ▸ rsuffix_any hl1 (HP.out.nob h) (HL.out.nob h) i Hi.out)
      have Q15 : Hid (∀ W, Chg Nob X W → Calls Try.prog 15 #[.agg #[.slice ap P.length cp, .slice al L.length cl]] W (CanPost P L code W)) := (show ∀ W, Chg Nob X W → Calls Try.prog 15 #[.agg #[.slice ap P.length cp, .slice al L.length cl]] W (CanPost P L code W) from fun W h => hcode ▸ lcanon_any hl1 hcp hcl (HP.out.nob h) (HL.out.nob h))
      have Q16 : Hid (∀ W, Chg Nob X W → Calls Try.prog 16 #[.agg #[.slice ap P.length cp, .slice al L.length cl]] W (CanPost P L code W)) := (show ∀ W, Chg Nob X W → Calls Try.prog 16 #[.agg #[.slice ap P.length cp, .slice al L.length cl]] W (CanPost P L code W) from fun W h => hcode ▸ rcanon_any hl1 (HP.out.nob h) (HL.out.nob h))
      have Q18 : Hid (∀ W, Calls Try.prog 18 #[.agg #[.slice ap P.length cp, .slice al L.length cl]] W fun e w' => e = .returned (.int .i64 code) ∧ Chg Nob W w') := (show ∀ W, Calls Try.prog 18 #[.agg #[.slice ap P.length cp, .slice al L.length cl]] W fun e w' => e = .returned (.int .i64 code) ∧ Chg Nob W w' from fun W => hcode ▸ lcheck_any _ _ hl1)
      have Q19 : Hid (∀ W, Calls Try.prog 19 #[.agg #[.slice ap P.length cp, .slice al L.length cl]] W fun e w' => e = .returned (.int .i64 code) ∧ Chg Nob W w') := (show ∀ W, Calls Try.prog 19 #[.agg #[.slice ap P.length cp, .slice al L.length cl]] W fun e w' => e = .returned (.int .i64 code) ∧ Chg Nob W w' from fun W => hcode ▸ rlcheck_any _ _ hl1)
      have Q21 : Hid (∀ W, Chg Nob X W → Calls Try.prog 21 #[.agg #[.slice ap P.length cp, .slice al L.length cl], .int .u64 (i : Int)] W fun e w' => e = .returned (.int .u64 (letterV P L i)) ∧ Chg Nob W w') := (show ∀ W, Chg Nob X W → Calls Try.prog 21 #[.agg #[.slice ap P.length cp, .slice al L.length cl], .int .u64 (i : Int)] W fun e w' => e = .returned (.int .u64 (letterV P L i)) ∧ Chg Nob W w' from fun W h => lletter_any hl1 (HP.out.nob h) (HL.out.nob h) i Hi.out)
      have Q20 : Hid (code = 0 → ∀ W, Chg Nob X W → Calls Try.prog 20 #[.agg #[.slice ap P.length cp, .slice al L.length cl], .int .u64 (i : Int)] W fun e w' => e = .returned (.int .u64 (letterV P L i)) ∧ Chg Nob W w') := (show code = 0 → ∀ W, Chg Nob X W → Calls Try.prog 20 #[.agg #[.slice ap P.length cp, .slice al L.length cl], .int .u64 (i : Int)] W fun e w' => e = .returned (.int .u64 (letterV P L i)) ∧ Chg Nob W w' from fun h0 W h => by
        have h0' : lcheckN P.length L.length = 0 := by rw [← Hcode.out]; exact h0
        have hl := (lcheck_ok (np := P.length) (nl := L.length) (by rw [h0']; rfl)).1
        obtain ⟨x, hx⟩ := wordO_some (P := P) hl i
        have e : letterV P L i = x := by unfold letterV; rw [if_pos h0', hx]; rfl
        rw [e]
        exact wletter_any hl1 hl (HP.out.nob h) (HL.out.nob h) i Hi.out hx)
      have Q22 : Hid (∀ W, Chg Nob X W → Calls Try.prog 22 #[.agg #[.slice ap P.length cp, .slice al L.length cl], .agg #[.slice bp Q.length dp, .slice bl M.length dl]] W (SamePost P L Q M W)) := (show ∀ W, Chg Nob X W → Calls Try.prog 22 #[.agg #[.slice ap P.length cp, .slice al L.length cl], .agg #[.slice bp Q.length dp, .slice bl M.length dl]] W (SamePost P L Q M W) from fun W h => lsame_any hl1 hl2 hcp hcl hdp hdl (HP.out.nob h) (HL.out.nob h) (HQ.out.nob h) (HM.out.nob h))
      have Q23 : Hid (∀ W, Chg Nob X W → Calls Try.prog 23 #[.agg #[.slice ap P.length cp, .slice al L.length cl], .agg #[.slice bp Q.length dp, .slice bl M.length dl]] W (SamePost P L Q M W)) := (show ∀ W, Chg Nob X W → Calls Try.prog 23 #[.agg #[.slice ap P.length cp, .slice al L.length cl], .agg #[.slice bp Q.length dp, .slice bl M.length dl]] W (SamePost P L Q M W) from fun W h => rlsame_any hl1 hl2 (HP.out.nob h) (HL.out.nob h) (HQ.out.nob h) (HM.out.nob h))
      have Hl1 := Lib.hid hl1
      clear hl1 hl2 hcode hmp hml hmq hmm hcp hcl hdp hdl hbig hbig2 hfit1 hfit2
      go_wp2_with fail
      rw [← hX]
      clear hX c0 c1 d0 d1 hb1 hb1d hb2 hb2d
      (with_reducible refine (Q13.out X (Chg.refl _ _)).mono ?_)
      clear Q13
      rintro e w1 ⟨hc1, v, rfl, ap1, cp1, al1, cl1, rfl, hP1, hL1⟩
      obtain ⟨X1, hX1, hcX1, c0, c1⟩ := box_law w1 (.slice ap1 (sufP P L i).length cp1) (.slice al1 (sufL P L i).length cl1)
      obtain ⟨⟨a0, a1⟩, _⟩ := HB.out X1 (hc1.trans1 hcX1)
      have H1 : Hid (Chg Nob X X1 ∧ URow X1 ap1 (sufP P L i) ∧ URow X1 al1 (sufL P L i) ∧ X1.cell? ⟨w1.heap.size, 0, none⟩ = some (.slice ap1 (sufP P L i).length cp1) ∧ X1.cell? ⟨w1.heap.size, 1, none⟩ = some (.slice al1 (sufL P L i).length cl1)) := Lib.hid ⟨hc1.trans1 hcX1, hP1.nob hcX1, hL1.nob hcX1, c0, c1⟩
      clear hc1 hcX1 hP1 hL1 c0 c1
      rw [hX1] at a0 a1
      go_wp2_with fail
      rw [← hX1]
      clear hX1 a0 a1
      (with_reducible refine (Q14.out X1 H1.out.1).mono ?_)
      clear Q14
      rintro e w2 ⟨hc1, v, rfl, ap2, cp2, al2, cl2, rfl, hP1, hL1⟩
      obtain ⟨X2, hX2, hcX1, c0, c1⟩ := box_law w2 (.slice ap2 (sufP P L i).length cp2) (.slice al2 (sufL P L i).length cl2)
      have H12 := Lib.hid (hc1.trans1 hcX1)
      obtain ⟨⟨a0, a1⟩, _⟩ := HB.out X2 (H1.out.1.trans1 H12.out)
      have H2 : Hid (Chg Nob X1 X2 ∧ URow X2 ap2 (sufP P L i) ∧ URow X2 al2 (sufL P L i) ∧ X2.cell? ⟨w2.heap.size, 0, none⟩ = some (.slice ap2 (sufP P L i).length cp2) ∧ X2.cell? ⟨w2.heap.size, 1, none⟩ = some (.slice al2 (sufL P L i).length cl2)) := Lib.hid ⟨H12.out, hP1.nob hcX1, hL1.nob hcX1, c0, c1⟩
      clear hc1 hcX1 hP1 hL1 c0 c1 H12
      rw [hX2] at a0 a1
      go_wp2_with fail
      rw [← hX2]
      clear hX2 a0 a1
      (with_reducible refine (Q15.out X2 (H1.out.1.trans1 H2.out.1)).mono ?_)
      clear Q15
      rintro e w3 ⟨hc1, P3, L3, v, rfl, ⟨ap3, cp3, al3, cl3, rfl, hP1, hL1⟩, hI, hI'⟩
      obtain ⟨X3, hX3, hcX1, c0, c1⟩ := box_law w3 (.slice ap3 P3.length cp3) (.slice al3 L3.length cl3)
      have H12 := Lib.hid (hc1.trans1 hcX1)
      obtain ⟨⟨a0, a1⟩, _⟩ := HB.out X3 ((H1.out.1.trans1 H2.out.1).trans1 H12.out)
      have H3 : Hid (Chg Nob X2 X3 ∧ URow X3 ap3 P3 ∧ URow X3 al3 L3 ∧ X3.cell? ⟨w3.heap.size, 0, none⟩ = some (.slice ap3 P3.length cp3) ∧ X3.cell? ⟨w3.heap.size, 1, none⟩ = some (.slice al3 L3.length cl3)) := Lib.hid ⟨H12.out, hP1.nob hcX1, hL1.nob hcX1, c0, c1⟩
      have HI3 := Lib.hid (And.intro hI hI')
      clear hc1 hcX1 hP1 hL1 c0 c1 H12 hI hI'
      rw [hX3] at a0 a1
      go_wp2_with fail
      rw [← hX3]
      clear hX3 a0 a1
      (with_reducible refine (Q16.out X3 ((H1.out.1.trans1 H2.out.1).trans1 H3.out.1)).mono ?_)
      clear Q16
      rintro e w4 ⟨hc1, P4, L4, v, rfl, ⟨ap4, cp4, al4, cl4, rfl, hP1, hL1⟩, hI, hI'⟩
      have h4 := can_det hI hI' HI3.out.1 HI3.out.2
      have h4p := h4.1
      have h4l := h4.2
      subst h4p h4l
      clear h4
      obtain ⟨X4, hX4, hcX1, c0, c1⟩ := box_law w4 (.slice ap4 P4.length cp4) (.slice al4 L4.length cl4)
      have H12 := Lib.hid (hc1.trans1 hcX1)
      have H24 := Lib.hid ((H2.out.1.trans1 H3.out.1).trans1 H12.out)
      have H14 := Lib.hid (H1.out.1.trans1 H24.out)
      have H34 := Lib.hid (H3.out.1.trans1 H12.out)
      have Hl4 := Lib.hid (can_len HI3.out.1 HI3.out.2)
      have Hl3 := Lib.hid (suf_len P L i)
      have E17 : Hid (∀ W, Chg Nob X4 W → Calls Try.prog 17 #[.agg #[.slice ap1 (sufP P L i).length cp1, .slice al1 (sufL P L i).length cl1], .agg #[.slice ap2 (sufP P L i).length cp2, .slice al2 (sufL P L i).length cl2]] W fun e w' => e = .returned (.bool true) ∧ Chg Nob W w') :=
        (show ∀ W, Chg Nob X4 W → Calls Try.prog 17 #[.agg #[.slice ap1 (sufP P L i).length cp1, .slice al1 (sufL P L i).length cl1], .agg #[.slice ap2 (sufP P L i).length cp2, .slice al2 (sufL P L i).length cl2]] W fun e w' => e = .returned (.bool true) ∧ Chg Nob W w' from fun W h => by
          have hh := lexact_any (w := W) (cp := cp1) (cl := cl1) (dp := cp2) (dl := cl2) (Nat.le_trans Hl3.out Hl1.out) (Nat.le_trans Hl3.out Hl1.out) (H1.out.2.1.nob (H24.out.trans1 h)) (H1.out.2.2.1.nob (H24.out.trans1 h)) (H2.out.2.1.nob (H34.out.trans1 h)) (H2.out.2.2.1.nob (H34.out.trans1 h))
          rw [beq_self_eq_true, beq_self_eq_true] at hh
          exact hh)
      have E17b : Hid (∀ W, Chg Nob X4 W → Calls Try.prog 17 #[.agg #[.slice ap3 P4.length cp3, .slice al3 L4.length cl3], .agg #[.slice ap4 P4.length cp4, .slice al4 L4.length cl4]] W fun e w' => e = .returned (.bool true) ∧ Chg Nob W w') :=
        (show ∀ W, Chg Nob X4 W → Calls Try.prog 17 #[.agg #[.slice ap3 P4.length cp3, .slice al3 L4.length cl3], .agg #[.slice ap4 P4.length cp4, .slice al4 L4.length cl4]] W fun e w' => e = .returned (.bool true) ∧ Chg Nob W w' from fun W h => by
          have hh := lexact_any (w := W) (cp := cp3) (cl := cl3) (dp := cp4) (dl := cl4) (Nat.le_trans Hl4.out Hl1.out) (Nat.le_trans Hl4.out Hl1.out) (H3.out.2.1.nob (H12.out.trans1 h)) (H3.out.2.2.1.nob (H12.out.trans1 h)) (hP1.nob (hcX1.trans1 h)) (hL1.nob (hcX1.trans1 h))
          rw [beq_self_eq_true, beq_self_eq_true] at hh
          exact hh)
      have HS : Hid (∀ w', Chg Nob X4 w' → w'.cell? ⟨w1.heap.size, 0, none⟩ = some (.slice ap1 (sufP P L i).length cp1) ∧ w'.cell? ⟨w1.heap.size, 1, none⟩ = some (.slice al1 (sufL P L i).length cl1) ∧ w'.cell? ⟨w2.heap.size, 0, none⟩ = some (.slice ap2 (sufP P L i).length cp2) ∧ w'.cell? ⟨w2.heap.size, 1, none⟩ = some (.slice al2 (sufL P L i).length cl2) ∧ w'.cell? ⟨w3.heap.size, 0, none⟩ = some (.slice ap3 P4.length cp3) ∧ w'.cell? ⟨w3.heap.size, 1, none⟩ = some (.slice al3 L4.length cl3) ∧ w'.cell? ⟨w4.heap.size, 0, none⟩ = some (.slice ap4 P4.length cp4) ∧ w'.cell? ⟨w4.heap.size, 1, none⟩ = some (.slice al4 L4.length cl4) ∧ w'.cell? ⟨w.heap.size, 0, none⟩ = some (.slice ap P.length cp) ∧ w'.cell? ⟨w.heap.size, 1, none⟩ = some (.slice al L.length cl)) :=
        (show ∀ w', Chg Nob X4 w' → w'.cell? ⟨w1.heap.size, 0, none⟩ = some (.slice ap1 (sufP P L i).length cp1) ∧ w'.cell? ⟨w1.heap.size, 1, none⟩ = some (.slice al1 (sufL P L i).length cl1) ∧ w'.cell? ⟨w2.heap.size, 0, none⟩ = some (.slice ap2 (sufP P L i).length cp2) ∧ w'.cell? ⟨w2.heap.size, 1, none⟩ = some (.slice al2 (sufL P L i).length cl2) ∧ w'.cell? ⟨w3.heap.size, 0, none⟩ = some (.slice ap3 P4.length cp3) ∧ w'.cell? ⟨w3.heap.size, 1, none⟩ = some (.slice al3 L4.length cl3) ∧ w'.cell? ⟨w4.heap.size, 0, none⟩ = some (.slice ap4 P4.length cp4) ∧ w'.cell? ⟨w4.heap.size, 1, none⟩ = some (.slice al4 L4.length cl4) ∧ w'.cell? ⟨w.heap.size, 0, none⟩ = some (.slice ap P.length cp) ∧ w'.cell? ⟨w.heap.size, 1, none⟩ = some (.slice al L.length cl) from fun w' h =>
          ⟨(H24.out.trans1 h).cell' H1.out.2.2.2.1 (fun e => e), (H24.out.trans1 h).cell' H1.out.2.2.2.2 (fun e => e), (H34.out.trans1 h).cell' H2.out.2.2.2.1 (fun e => e), (H34.out.trans1 h).cell' H2.out.2.2.2.2 (fun e => e), (H12.out.trans1 h).cell' H3.out.2.2.2.1 (fun e => e), (H12.out.trans1 h).cell' H3.out.2.2.2.2 (fun e => e), h.cell' c0 (fun e => e), h.cell' c1 (fun e => e), (HB.out _ (H14.out.trans1 h)).1.1, (HB.out _ (H14.out.trans1 h)).1.2⟩)
      clear hc1 hcX1 hP1 hL1 c0 c1 H12 hI hI' H1 H2 H3 H24 H34 HI3
      obtain ⟨e0, e1, e2, e3, e4, e5, e6, e7, e8, e9⟩ := HS.out X4 (Chg.refl _ _)
      try go_wp2_with fail
      rw [← hX4]
      clear hX4
      refine wp_region_free (fun _ => true) (fun w' => w'.cell? ⟨w1.heap.size, 0, none⟩ = some (.slice ap1 (sufP P L i).length cp1) ∧ w'.cell? ⟨w1.heap.size, 1, none⟩ = some (.slice al1 (sufL P L i).length cl1) ∧ w'.cell? ⟨w2.heap.size, 0, none⟩ = some (.slice ap2 (sufP P L i).length cp2) ∧ w'.cell? ⟨w2.heap.size, 1, none⟩ = some (.slice al2 (sufL P L i).length cl2) ∧ w'.cell? ⟨w3.heap.size, 0, none⟩ = some (.slice ap3 P4.length cp3) ∧ w'.cell? ⟨w3.heap.size, 1, none⟩ = some (.slice al3 L4.length cl3) ∧ w'.cell? ⟨w4.heap.size, 0, none⟩ = some (.slice ap4 P4.length cp4) ∧ w'.cell? ⟨w4.heap.size, 1, none⟩ = some (.slice al4 L4.length cl4) ∧ w'.cell? ⟨w.heap.size, 0, none⟩ = some (.slice ap P.length cp) ∧ w'.cell? ⟨w.heap.size, 1, none⟩ = some (.slice al L.length cl)) (by kernel_rfl) ⟨e0, e1, e2, e3, e4, e5, e6, e7, e8, e9⟩ (fun hHeld => ?_)
      refine wpAnyG_take (i := 0) (v := ?_) rfl (by kernel_rfl) (fun _ _ _ h => h) (Or.inl ⟨by rfl, ?_⟩) hHeld ?_
      rotate_left
      · intro w hSw; obtain ⟨e0, e1, e2, e3, e4, e5, e6, e7, e8, e9⟩ := hSw; go_simp; (try (with_reducible rfl))
      simp only [Act.put, List.setIfInBounds_toArray]
      refine wpAnyG_take (i := 1) (v := ?_) rfl (by kernel_rfl) (fun _ _ _ h => h) (Or.inl ⟨by rfl, ?_⟩) hHeld ?_
      rotate_left
      · intro w hSw; obtain ⟨e0, e1, e2, e3, e4, e5, e6, e7, e8, e9⟩ := hSw; go_simp; (try (with_reducible rfl))
      try simp only [Act.put]
      refine wpAnyG_take (i := 2) (v := ?_) rfl (by kernel_rfl) (fun _ _ _ h => h) (Or.inl ⟨by rfl, ?_⟩) hHeld ?_
      rotate_left
      · intro w hSw; obtain ⟨e0, e1, e2, e3, e4, e5, e6, e7, e8, e9⟩ := hSw; go_simp; (try (with_reducible rfl))
      try simp only [Act.put]
      refine wpAnyG_take (i := 3) (v := ?_) rfl (by kernel_rfl) (fun _ _ _ h => h) (Or.inl ⟨by rfl, ?_⟩) hHeld ?_
      rotate_left
      · intro w hSw; obtain ⟨e0, e1, e2, e3, e4, e5, e6, e7, e8, e9⟩ := hSw; go_simp; (try (with_reducible rfl))
      try simp only [Act.put]
      refine wpAnyG_take (i := 4) (v := ?_) rfl (by kernel_rfl) (fun _ _ _ h => h) (Or.inl ⟨by kernel_rfl, ?_⟩) hHeld ?_
      rotate_left
      · intro w hSw; obtain ⟨e0, e1, e2, e3, e4, e5, e6, e7, e8, e9⟩ := hSw; go_simp; (try (with_reducible rfl))
      try simp only [Act.put]
      refine wpAnyG_take (i := 5) (v := ?_) rfl (by kernel_rfl) (fun _ _ _ h => h) (Or.inl ⟨by kernel_rfl, ?_⟩) hHeld ?_
      rotate_left
      · intro w hSw; obtain ⟨e0, e1, e2, e3, e4, e5, e6, e7, e8, e9⟩ := hSw; go_simp; (try (with_reducible rfl))
      try simp only [Act.put]
      refine wpAnyG_take (i := 6) (v := ?_) rfl (by kernel_rfl) (fun _ _ _ h => h) (Or.inl ⟨by kernel_rfl, ?_⟩) hHeld ?_
      rotate_left
      · intro w hSw; obtain ⟨e0, e1, e2, e3, e4, e5, e6, e7, e8, e9⟩ := hSw; go_simp; (try (with_reducible rfl))
      try simp only [Act.put]
      refine wpAnyG_take (i := 7) (v := ?_) rfl (by kernel_rfl) (fun _ _ _ h => h) (Or.inl ⟨by kernel_rfl, ?_⟩) hHeld ?_
      rotate_left
      · intro w hSw; obtain ⟨e0, e1, e2, e3, e4, e5, e6, e7, e8, e9⟩ := hSw; go_simp; (try (with_reducible rfl))
      try simp only [Act.put]
      refine wpAnyG_take (i := 8) (v := ?_) rfl (by kernel_rfl) (fun _ _ _ h => h) (Or.inl ⟨by kernel_rfl, ?_⟩) hHeld ?_
      rotate_left
      · intro w hSw; obtain ⟨e0, e1, e2, e3, e4, e5, e6, e7, e8, e9⟩ := hSw; go_simp; (try (with_reducible rfl))
      try simp only [Act.put]
      refine wpAnyG_take (i := 9) (v := ?_) rfl (by kernel_rfl) (fun _ _ _ h => h) (Or.inl ⟨by kernel_rfl, ?_⟩) hHeld ?_
      rotate_left
      · intro w hSw; obtain ⟨e0, e1, e2, e3, e4, e5, e6, e7, e8, e9⟩ := hSw; go_simp; (try (with_reducible rfl))
      try simp only [Act.put]
      refine wpAnyG_take (i := 10) (v := ?_) rfl (by kernel_rfl) (fun _ _ _ h => h) (Or.inl ⟨by kernel_rfl, ?_⟩) hHeld ?_
      rotate_left
      · intro w hSw; obtain ⟨e0, e1, e2, e3, e4, e5, e6, e7, e8, e9⟩ := hSw; go_simp; (try (with_reducible rfl))
      try simp only [Act.put]
      refine wpAnyG_ready (rs := [11]) (by kernel_rfl) (by simp) ?_
      refine AllReadyG.cons rfl (fun K hK => ?_) AllReadyG.nil
      rw [if_pos (by kernel_rfl)]
      go_simp
      (with_reducible refine (E17.out _ (((Chg.refl Nob X4).drew))).mono ?_)
      rintro e v1 ⟨rfl, hc5⟩
      have Hv1 : Hid (Chg Nob X4 v1) := (show Chg Nob X4 v1 from (((Chg.refl Nob X4).drew)).trans1 hc5)
      clear hc5
      refine hK.out _ _ (fun _ => HS.out _ Hv1.out) ?_
      clear hK K
      try simp only [Act.put]
      refine wpAnyG_take (i := 12) (v := ?_) rfl (by kernel_rfl) (fun _ _ _ h => h) (Or.inl ⟨by kernel_rfl, ?_⟩) (HS.out _ Hv1.out) ?_
      rotate_left
      · intro w hSw; obtain ⟨e0, e1, e2, e3, e4, e5, e6, e7, e8, e9⟩ := hSw; go_simp; (try (with_reducible rfl))
      try simp only [Act.put]
      refine wpAnyG_take (i := 13) (v := ?_) rfl (by kernel_rfl) (fun _ _ _ h => h) (Or.inl ⟨by kernel_rfl, ?_⟩) (HS.out _ Hv1.out) ?_
      rotate_left
      · intro w hSw; obtain ⟨e0, e1, e2, e3, e4, e5, e6, e7, e8, e9⟩ := hSw; go_simp; (try (with_reducible rfl))
      try simp only [Act.put]
      refine wpAnyG_take (i := 14) (v := ?_) rfl (by kernel_rfl) (fun _ _ _ h => h) (Or.inl ⟨by kernel_rfl, ?_⟩) (HS.out _ Hv1.out) ?_
      rotate_left
      · intro w hSw; obtain ⟨e0, e1, e2, e3, e4, e5, e6, e7, e8, e9⟩ := hSw; go_simp; (try (with_reducible rfl))
      try simp only [Act.put]
      refine wpAnyG_take (i := 15) (v := ?_) rfl (by kernel_rfl) (fun _ _ _ h => h) (Or.inl ⟨by kernel_rfl, ?_⟩) (HS.out _ Hv1.out) ?_
      rotate_left
      · intro w hSw; obtain ⟨e0, e1, e2, e3, e4, e5, e6, e7, e8, e9⟩ := hSw; go_simp; (try (with_reducible rfl))
      try simp only [Act.put]
      refine wpAnyG_take (i := 16) (v := ?_) rfl (by kernel_rfl) (fun _ _ _ h => h) (Or.inl ⟨by kernel_rfl, ?_⟩) (HS.out _ Hv1.out) ?_
      rotate_left
      · intro w hSw; obtain ⟨e0, e1, e2, e3, e4, e5, e6, e7, e8, e9⟩ := hSw; go_simp; (try (with_reducible rfl))
      try simp only [Act.put]
      refine wpAnyG_ready (rs := [17]) (by kernel_rfl) (by simp) ?_
      refine AllReadyG.cons rfl (fun K hK => ?_) AllReadyG.nil
      rw [if_pos (by kernel_rfl)]
      go_simp
      (with_reducible refine (E17b.out _ (Hv1.out)).mono ?_)
      rintro e v2 ⟨rfl, hc5⟩
      have Hv2 : Hid (Chg Nob X4 v2) := (show Chg Nob X4 v2 from (Hv1.out).trans1 hc5)
      clear hc5
      refine hK.out _ _ (fun _ => HS.out _ Hv2.out) ?_
      clear hK K
      try simp only [Act.put]
      refine wpAnyG_take (i := 18) (v := ?_) rfl (by kernel_rfl) (fun _ _ _ h => h) (Or.inl ⟨by kernel_rfl, ?_⟩) (HS.out _ Hv2.out) ?_
      rotate_left
      · intro w hSw; obtain ⟨e0, e1, e2, e3, e4, e5, e6, e7, e8, e9⟩ := hSw; go_simp; (try (with_reducible rfl))
      try simp only [Act.put]
      refine wpAnyG_take (i := 19) (v := ?_) rfl (by kernel_rfl) (fun _ _ _ h => h) (Or.inl ⟨by kernel_rfl, ?_⟩) (HS.out _ Hv2.out) ?_
      rotate_left
      · intro w hSw; obtain ⟨e0, e1, e2, e3, e4, e5, e6, e7, e8, e9⟩ := hSw; go_simp; (try (with_reducible rfl))
      try simp only [Act.put]
      refine wpAnyG_take (i := 20) (v := ?_) rfl (by kernel_rfl) (fun _ _ _ h => h) (Or.inl ⟨by kernel_rfl, ?_⟩) (HS.out _ Hv2.out) ?_
      rotate_left
      · intro w hSw; obtain ⟨e0, e1, e2, e3, e4, e5, e6, e7, e8, e9⟩ := hSw; go_simp; (try (with_reducible rfl))
      try simp only [Act.put]
      refine wpAnyG_take (i := 21) (v := ?_) rfl (by kernel_rfl) (fun _ _ _ h => h) (Or.inl ⟨by kernel_rfl, ?_⟩) (HS.out _ Hv2.out) ?_
      rotate_left
      · intro w hSw; obtain ⟨e0, e1, e2, e3, e4, e5, e6, e7, e8, e9⟩ := hSw; go_simp; (try (with_reducible rfl))
      try simp only [Act.put]
      refine wpAnyG_take (i := 23) (v := ?_) rfl (by kernel_rfl) (fun _ _ _ h => h) (Or.inl ⟨by kernel_rfl, ?_⟩) (HS.out _ Hv2.out) ?_
      rotate_left
      · intro w hSw; obtain ⟨e0, e1, e2, e3, e4, e5, e6, e7, e8, e9⟩ := hSw; go_simp; (try (with_reducible rfl))
      try simp only [Act.put]
      refine wpAnyG_ready (rs := [22]) (by kernel_rfl) (by simp) ?_
      refine AllReadyG.cons rfl (fun K hK => ?_) AllReadyG.nil
      rw [if_pos (by kernel_rfl)]
      go_simp
      (with_reducible refine (Q18.out _).mono ?_)
      rintro e v3 ⟨rfl, hc5⟩
      have Hv3 : Hid (Chg Nob X4 v3) := (show Chg Nob X4 v3 from (Hv2.out).trans1 hc5)
      clear hc5
      refine hK.out _ _ (fun _ => HS.out _ Hv3.out) ?_
      clear hK K
      try simp only [Act.put]
      refine wpAnyG_ready (rs := [24]) (by kernel_rfl) (by simp) ?_
      refine AllReadyG.cons rfl (fun K hK => ?_) AllReadyG.nil
      rw [if_pos (by kernel_rfl)]
      go_simp
      (with_reducible refine (Q19.out _).mono ?_)
      rintro e v4 ⟨rfl, hc5⟩
      have Hv4 : Hid (Chg Nob X4 v4) := (show Chg Nob X4 v4 from (Hv3.out).trans1 hc5)
      clear hc5
      refine hK.out _ _ (fun _ => HS.out _ Hv4.out) ?_
      clear hK K
      try simp only [Act.put]
      refine wpAnyG_take (i := 25) (v := ?_) rfl (by kernel_rfl) (fun _ _ _ h => h) (Or.inl ⟨by kernel_rfl, ?_⟩) (HS.out _ Hv4.out) ?_
      rotate_left
      · intro w hSw; obtain ⟨e0, e1, e2, e3, e4, e5, e6, e7, e8, e9⟩ := hSw; go_simp; (try (with_reducible rfl))
      try simp only [Act.put]
      refine wpAnyG_take (i := 26) (v := ?_) rfl (by kernel_rfl) (fun _ _ _ h => h) (Or.inl ⟨by kernel_rfl, ?_⟩) (HS.out _ Hv4.out) ?_
      rotate_left
      · intro w hSw; obtain ⟨e0, e1, e2, e3, e4, e5, e6, e7, e8, e9⟩ := hSw; go_simp; (try (with_reducible rfl))
      try simp only [Act.put]
      refine wpAnyG_done (by kernel_rfl) ?_ _
      go_simp
      clear hHeld e0 e1 e2 e3 e4 e5 e6 e7 e8 e9 E17 E17b Q18 Q19
      have HN : Hid (Chg Nob X v4) := (show Chg Nob X v4 from H14.out.trans1 Hv4.out)
      clear HS
      obtain ⟨⟨a0, a1⟩, _⟩ := HB.out _ HN.out
      cases h0 : (code == 0) with
      | false =>
        have Hz : Hid (letterV P L i = 0) := (show letterV P L i = 0 from if_neg (by rw [← Hcode.out]; exact beq_eq_false_iff_ne.1 h0))
        rw [Hz.out] at Q21
        obtain ⟨⟨a0, a1⟩, b0, b1⟩ := HB.out _ HN.out
        go_wp2_with fail
        have HS : Hid (∀ w', Chg Nob X w' → (w'.cell? ⟨w.heap.size, 0, none⟩ = some (.slice ap P.length cp) ∧ w'.cell? ⟨w.heap.size, 1, none⟩ = some (.slice al L.length cl)) ∧ w'.cell? ⟨w.heap.size + 1, 0, none⟩ = some (.slice bp Q.length dp) ∧ w'.cell? ⟨w.heap.size + 1, 1, none⟩ = some (.slice bl M.length dl)) := HB
        refine wp_region_free (fun _ => true) (fun w' => (w'.cell? ⟨w.heap.size, 0, none⟩ = some (.slice ap P.length cp) ∧ w'.cell? ⟨w.heap.size, 1, none⟩ = some (.slice al L.length cl)) ∧ w'.cell? ⟨w.heap.size + 1, 0, none⟩ = some (.slice bp Q.length dp) ∧ w'.cell? ⟨w.heap.size + 1, 1, none⟩ = some (.slice bl M.length dl)) (by kernel_rfl) ⟨⟨a0, a1⟩, b0, b1⟩ (fun hHeld => ?_)
        refine wpAnyG_take (i := 0) (v := ?_) rfl (by kernel_rfl) (fun _ _ _ h => h) (Or.inl ⟨by rfl, ?_⟩) hHeld ?_
        rotate_left
        · intro w hSw; obtain ⟨⟨a0, a1⟩, b0, b1⟩ := hSw; go_simp; (try (with_reducible rfl))
        simp only [Act.put, List.setIfInBounds_toArray]
        refine wpAnyG_take (i := 1) (v := ?_) rfl (by kernel_rfl) (fun _ _ _ h => h) (Or.inl ⟨by rfl, ?_⟩) hHeld ?_
        rotate_left
        · intro w hSw; obtain ⟨⟨a0, a1⟩, b0, b1⟩ := hSw; go_simp; (try (with_reducible rfl))
        try simp only [Act.put]
        refine wpAnyG_take (i := 3) (v := ?_) rfl (by kernel_rfl) (fun _ _ _ h => h) (Or.inl ⟨by rfl, ?_⟩) hHeld ?_
        rotate_left
        · intro w hSw; obtain ⟨⟨a0, a1⟩, b0, b1⟩ := hSw; go_simp; (try (with_reducible rfl))
        try simp only [Act.put]
        refine wpAnyG_ready (rs := [2]) (by kernel_rfl) (by simp) ?_
        refine AllReadyG.cons rfl (fun K hK => ?_) AllReadyG.nil
        rw [if_pos (by kernel_rfl)]
        go_simp
        (with_reducible refine (Q21.out _ ((HN.out.drew))).mono ?_)
        rintro e v5 ⟨rfl, hc5⟩
        have Hv5 : Hid (Chg Nob X v5) := (show Chg Nob X v5 from ((HN.out.drew)).trans1 hc5)
        clear hc5
        refine hK.out _ _ (fun _ => HS.out _ Hv5.out) ?_
        clear hK K
        try simp only [Act.put]
        refine wpAnyG_take (i := 4) (v := ?_) rfl (by kernel_rfl) (fun _ _ _ h => h) (Or.inl ⟨by kernel_rfl, ?_⟩) (HS.out _ Hv5.out) ?_
        rotate_left
        · intro w hSw; obtain ⟨⟨a0, a1⟩, b0, b1⟩ := hSw; go_simp; (try (with_reducible rfl))
        try simp only [Act.put]
        refine wpAnyG_take (i := 5) (v := ?_) rfl (by kernel_rfl) (fun _ _ _ h => h) (Or.inl ⟨by kernel_rfl, ?_⟩) (HS.out _ Hv5.out) ?_
        rotate_left
        · intro w hSw; obtain ⟨⟨a0, a1⟩, b0, b1⟩ := hSw; go_simp; (try (with_reducible rfl))
        try simp only [Act.put]
        refine wpAnyG_take (i := 6) (v := ?_) rfl (by kernel_rfl) (fun _ _ _ h => h) (Or.inl ⟨by kernel_rfl, ?_⟩) (HS.out _ Hv5.out) ?_
        rotate_left
        · intro w hSw; obtain ⟨⟨a0, a1⟩, b0, b1⟩ := hSw; go_simp; (try (with_reducible rfl))
        try simp only [Act.put]
        refine wpAnyG_take (i := 7) (v := ?_) rfl (by kernel_rfl) (fun _ _ _ h => h) (Or.inl ⟨by kernel_rfl, ?_⟩) (HS.out _ Hv5.out) ?_
        rotate_left
        · intro w hSw; obtain ⟨⟨a0, a1⟩, b0, b1⟩ := hSw; go_simp; (try (with_reducible rfl))
        try simp only [Act.put]
        refine wpAnyG_take (i := 9) (v := ?_) rfl (by kernel_rfl) (fun _ _ _ h => h) (Or.inl ⟨by kernel_rfl, ?_⟩) (HS.out _ Hv5.out) ?_
        rotate_left
        · intro w hSw; obtain ⟨⟨a0, a1⟩, b0, b1⟩ := hSw; go_simp; (try (with_reducible rfl))
        try simp only [Act.put]
        refine wpAnyG_take (i := 10) (v := ?_) rfl (by kernel_rfl) (fun _ _ _ h => h) (Or.inl ⟨by kernel_rfl, ?_⟩) (HS.out _ Hv5.out) ?_
        rotate_left
        · intro w hSw; obtain ⟨⟨a0, a1⟩, b0, b1⟩ := hSw; go_simp; (try (with_reducible rfl))
        try simp only [Act.put]
        refine wpAnyG_ready (rs := [8]) (by kernel_rfl) (by simp) ?_
        refine AllReadyG.cons rfl (fun K hK => ?_) AllReadyG.nil
        rw [if_pos (by kernel_rfl)]
        go_simp
        (with_reducible refine (Q22.out _ (Hv5.out)).mono ?_)
        rintro e v6 ⟨hc5, x1, rfl, hs1⟩
        have Hv6 : Hid (Chg Nob X v6) := (show Chg Nob X v6 from (Hv5.out).trans1 hc5)
        clear hc5
        refine hK.out _ _ (fun _ => HS.out _ Hv6.out) ?_
        clear hK K
        try simp only [Act.put]
        refine wpAnyG_ready (rs := [11]) (by kernel_rfl) (by simp) ?_
        refine AllReadyG.cons rfl (fun K hK => ?_) AllReadyG.nil
        rw [if_pos (by kernel_rfl)]
        go_simp
        (with_reducible refine (Q23.out _ (Hv6.out)).mono ?_)
        rintro e v7 ⟨hc5, x2, rfl, hs2⟩
        have Hv7 : Hid (Chg Nob X v7) := (show Chg Nob X v7 from (Hv6.out).trans1 hc5)
        have hs3 := hs1.det hs2
        subst hs3
        clear hs1 hs2
        clear hc5
        refine hK.out _ _ (fun _ => HS.out _ Hv7.out) ?_
        clear hK K
        try simp only [Act.put]
        refine wpAnyG_take (i := 12) (v := ?_) rfl (by kernel_rfl) (fun _ _ _ h => h) (Or.inl ⟨by kernel_rfl, ?_⟩) (HS.out _ Hv7.out) ?_
        rotate_left
        · intro w hSw; obtain ⟨⟨a0, a1⟩, b0, b1⟩ := hSw; go_simp; (try (with_reducible rfl))
        try simp only [Act.put]
        refine wpAnyG_take (i := 13) (v := ?_) rfl (by kernel_rfl) (fun _ _ _ h => h) (Or.inl ⟨by kernel_rfl, ?_⟩) (HS.out _ Hv7.out) ?_
        rotate_left
        · intro w hSw; obtain ⟨⟨a0, a1⟩, b0, b1⟩ := hSw; go_simp; (try (with_reducible rfl))
        try simp only [Act.put]
        refine wpAnyG_take (i := 14) (v := ?_) rfl (by kernel_rfl) (fun _ _ _ h => h) (Or.inl ⟨by kernel_rfl, ?_⟩) (HS.out _ Hv7.out) ?_
        rotate_left
        · intro w hSw; obtain ⟨⟨a0, a1⟩, b0, b1⟩ := hSw; go_simp; (try (with_reducible rfl))
        try simp only [Act.put]
        refine wpAnyG_ready (rs := [15]) (by kernel_rfl) (by simp) ?_
        refine AllReadyG.cons rfl (fun K hK => ?_) AllReadyG.nil
        rw [if_pos (by kernel_rfl)]
        go_simp
        (with_reducible refine (known_lasso _).mono ?_)
        rintro e v8 ⟨rfl, hc5⟩
        have Hv8 : Hid (Chg Nob X v8) := (show Chg Nob X v8 from (Hv7.out).trans1 hc5)
        clear hc5
        refine hK.out _ _ (fun _ => HS.out _ Hv8.out) ?_
        clear hK K
        try simp only [Act.put]
        refine wpAnyG_take (i := 16) (v := ?_) rfl (by kernel_rfl) (fun _ _ _ h => h) (Or.inl ⟨by kernel_rfl, ?_⟩) (HS.out _ Hv8.out) ?_
        rotate_left
        · intro w hSw; obtain ⟨⟨a0, a1⟩, b0, b1⟩ := hSw; go_simp; (try (with_reducible rfl))
        try simp only [Act.put]
        refine wpAnyG_take (i := 17) (v := ?_) rfl (by kernel_rfl) (fun _ _ _ h => h) (Or.inl ⟨by kernel_rfl, ?_⟩) (HS.out _ Hv8.out) ?_
        rotate_left
        · intro w hSw; obtain ⟨⟨a0, a1⟩, b0, b1⟩ := hSw; go_simp; (try (with_reducible rfl))
        try simp only [Act.put]
        refine wpAnyG_done (by kernel_rfl) ?_ _
        go_simp
        go_wp2_with fail
        go_ret
        exact ⟨rfl, (HcX.out.trans1 Hv8.out).toBelow⟩
      | true =>
        go_wp2_with fail
        (with_reducible refine (Q20.out (beq_iff_eq.1 h0) _ HN.out).mono ?_)
        rintro e w8 ⟨rfl, hc8⟩
        have HN8 : Hid (Chg Nob X w8) := (show Chg Nob X w8 from HN.out.trans1 hc8)
        clear hc8 a0 a1 HN
        obtain ⟨⟨a0, a1⟩, b0, b1⟩ := HB.out _ HN8.out
        obtain ⟨lt, hlt⟩ : ∃ lt, lt = letterV P L i := ⟨_, rfl⟩
        rw [← hlt] at Q21 ⊢
        clear hlt
        go_wp2_with fail
        have HS : Hid (∀ w', Chg Nob X w' → (w'.cell? ⟨w.heap.size, 0, none⟩ = some (.slice ap P.length cp) ∧ w'.cell? ⟨w.heap.size, 1, none⟩ = some (.slice al L.length cl)) ∧ w'.cell? ⟨w.heap.size + 1, 0, none⟩ = some (.slice bp Q.length dp) ∧ w'.cell? ⟨w.heap.size + 1, 1, none⟩ = some (.slice bl M.length dl)) := HB
        refine wp_region_free (fun _ => true) (fun w' => (w'.cell? ⟨w.heap.size, 0, none⟩ = some (.slice ap P.length cp) ∧ w'.cell? ⟨w.heap.size, 1, none⟩ = some (.slice al L.length cl)) ∧ w'.cell? ⟨w.heap.size + 1, 0, none⟩ = some (.slice bp Q.length dp) ∧ w'.cell? ⟨w.heap.size + 1, 1, none⟩ = some (.slice bl M.length dl)) (by kernel_rfl) ⟨⟨a0, a1⟩, b0, b1⟩ (fun hHeld => ?_)
        refine wpAnyG_take (i := 0) (v := ?_) rfl (by kernel_rfl) (fun _ _ _ h => h) (Or.inl ⟨by rfl, ?_⟩) hHeld ?_
        rotate_left
        · intro w hSw; obtain ⟨⟨a0, a1⟩, b0, b1⟩ := hSw; go_simp; (try (with_reducible rfl))
        simp only [Act.put, List.setIfInBounds_toArray]
        refine wpAnyG_take (i := 1) (v := ?_) rfl (by kernel_rfl) (fun _ _ _ h => h) (Or.inl ⟨by rfl, ?_⟩) hHeld ?_
        rotate_left
        · intro w hSw; obtain ⟨⟨a0, a1⟩, b0, b1⟩ := hSw; go_simp; (try (with_reducible rfl))
        try simp only [Act.put]
        refine wpAnyG_take (i := 3) (v := ?_) rfl (by kernel_rfl) (fun _ _ _ h => h) (Or.inl ⟨by rfl, ?_⟩) hHeld ?_
        rotate_left
        · intro w hSw; obtain ⟨⟨a0, a1⟩, b0, b1⟩ := hSw; go_simp; (try (with_reducible rfl))
        try simp only [Act.put]
        refine wpAnyG_ready (rs := [2]) (by kernel_rfl) (by simp) ?_
        refine AllReadyG.cons rfl (fun K hK => ?_) AllReadyG.nil
        rw [if_pos (by kernel_rfl)]
        go_simp
        (with_reducible refine (Q21.out _ ((HN8.out.drew))).mono ?_)
        rintro e v9 ⟨rfl, hc5⟩
        have Hv9 : Hid (Chg Nob X v9) := (show Chg Nob X v9 from ((HN8.out.drew)).trans1 hc5)
        clear hc5
        refine hK.out _ _ (fun _ => HS.out _ Hv9.out) ?_
        clear hK K
        try simp only [Act.put]
        refine wpAnyG_take (i := 4) (v := ?_) rfl (by kernel_rfl) (fun _ _ _ h => h) (Or.inl ⟨by kernel_rfl, ?_⟩) (HS.out _ Hv9.out) ?_
        rotate_left
        · intro w hSw; obtain ⟨⟨a0, a1⟩, b0, b1⟩ := hSw; go_simp; (try (with_reducible rfl))
        try simp only [Act.put]
        refine wpAnyG_take (i := 5) (v := ?_) rfl (by kernel_rfl) (fun _ _ _ h => h) (Or.inl ⟨by kernel_rfl, ?_⟩) (HS.out _ Hv9.out) ?_
        rotate_left
        · intro w hSw; obtain ⟨⟨a0, a1⟩, b0, b1⟩ := hSw; go_simp; (try (with_reducible rfl))
        try simp only [Act.put]
        refine wpAnyG_take (i := 6) (v := ?_) rfl (by kernel_rfl) (fun _ _ _ h => h) (Or.inl ⟨by kernel_rfl, ?_⟩) (HS.out _ Hv9.out) ?_
        rotate_left
        · intro w hSw; obtain ⟨⟨a0, a1⟩, b0, b1⟩ := hSw; go_simp; (try (with_reducible rfl))
        try simp only [Act.put]
        refine wpAnyG_take (i := 7) (v := ?_) rfl (by kernel_rfl) (fun _ _ _ h => h) (Or.inl ⟨by kernel_rfl, ?_⟩) (HS.out _ Hv9.out) ?_
        rotate_left
        · intro w hSw; obtain ⟨⟨a0, a1⟩, b0, b1⟩ := hSw; go_simp; (try (with_reducible rfl))
        try simp only [Act.put]
        refine wpAnyG_take (i := 9) (v := ?_) rfl (by kernel_rfl) (fun _ _ _ h => h) (Or.inl ⟨by kernel_rfl, ?_⟩) (HS.out _ Hv9.out) ?_
        rotate_left
        · intro w hSw; obtain ⟨⟨a0, a1⟩, b0, b1⟩ := hSw; go_simp; (try (with_reducible rfl))
        try simp only [Act.put]
        refine wpAnyG_take (i := 10) (v := ?_) rfl (by kernel_rfl) (fun _ _ _ h => h) (Or.inl ⟨by kernel_rfl, ?_⟩) (HS.out _ Hv9.out) ?_
        rotate_left
        · intro w hSw; obtain ⟨⟨a0, a1⟩, b0, b1⟩ := hSw; go_simp; (try (with_reducible rfl))
        try simp only [Act.put]
        refine wpAnyG_ready (rs := [8]) (by kernel_rfl) (by simp) ?_
        refine AllReadyG.cons rfl (fun K hK => ?_) AllReadyG.nil
        rw [if_pos (by kernel_rfl)]
        go_simp
        (with_reducible refine (Q22.out _ (Hv9.out)).mono ?_)
        rintro e v10 ⟨hc5, x1, rfl, hs1⟩
        have Hv10 : Hid (Chg Nob X v10) := (show Chg Nob X v10 from (Hv9.out).trans1 hc5)
        clear hc5
        refine hK.out _ _ (fun _ => HS.out _ Hv10.out) ?_
        clear hK K
        try simp only [Act.put]
        refine wpAnyG_ready (rs := [11]) (by kernel_rfl) (by simp) ?_
        refine AllReadyG.cons rfl (fun K hK => ?_) AllReadyG.nil
        rw [if_pos (by kernel_rfl)]
        go_simp
        (with_reducible refine (Q23.out _ (Hv10.out)).mono ?_)
        rintro e v11 ⟨hc5, x2, rfl, hs2⟩
        have Hv11 : Hid (Chg Nob X v11) := (show Chg Nob X v11 from (Hv10.out).trans1 hc5)
        have hs3 := hs1.det hs2
        subst hs3
        clear hs1 hs2
        clear hc5
        refine hK.out _ _ (fun _ => HS.out _ Hv11.out) ?_
        clear hK K
        try simp only [Act.put]
        refine wpAnyG_take (i := 12) (v := ?_) rfl (by kernel_rfl) (fun _ _ _ h => h) (Or.inl ⟨by kernel_rfl, ?_⟩) (HS.out _ Hv11.out) ?_
        rotate_left
        · intro w hSw; obtain ⟨⟨a0, a1⟩, b0, b1⟩ := hSw; go_simp; (try (with_reducible rfl))
        try simp only [Act.put]
        refine wpAnyG_take (i := 13) (v := ?_) rfl (by kernel_rfl) (fun _ _ _ h => h) (Or.inl ⟨by kernel_rfl, ?_⟩) (HS.out _ Hv11.out) ?_
        rotate_left
        · intro w hSw; obtain ⟨⟨a0, a1⟩, b0, b1⟩ := hSw; go_simp; (try (with_reducible rfl))
        try simp only [Act.put]
        refine wpAnyG_take (i := 14) (v := ?_) rfl (by kernel_rfl) (fun _ _ _ h => h) (Or.inl ⟨by kernel_rfl, ?_⟩) (HS.out _ Hv11.out) ?_
        rotate_left
        · intro w hSw; obtain ⟨⟨a0, a1⟩, b0, b1⟩ := hSw; go_simp; (try (with_reducible rfl))
        try simp only [Act.put]
        refine wpAnyG_ready (rs := [15]) (by kernel_rfl) (by simp) ?_
        refine AllReadyG.cons rfl (fun K hK => ?_) AllReadyG.nil
        rw [if_pos (by kernel_rfl)]
        go_simp
        (with_reducible refine (known_lasso _).mono ?_)
        rintro e v12 ⟨rfl, hc5⟩
        have Hv12 : Hid (Chg Nob X v12) := (show Chg Nob X v12 from (Hv11.out).trans1 hc5)
        clear hc5
        refine hK.out _ _ (fun _ => HS.out _ Hv12.out) ?_
        clear hK K
        try simp only [Act.put]
        refine wpAnyG_take (i := 16) (v := ?_) rfl (by kernel_rfl) (fun _ _ _ h => h) (Or.inl ⟨by kernel_rfl, ?_⟩) (HS.out _ Hv12.out) ?_
        rotate_left
        · intro w hSw; obtain ⟨⟨a0, a1⟩, b0, b1⟩ := hSw; go_simp; (try (with_reducible rfl))
        try simp only [Act.put]
        refine wpAnyG_take (i := 17) (v := ?_) rfl (by kernel_rfl) (fun _ _ _ h => h) (Or.inl ⟨by kernel_rfl, ?_⟩) (HS.out _ Hv12.out) ?_
        rotate_left
        · intro w hSw; obtain ⟨⟨a0, a1⟩, b0, b1⟩ := hSw; go_simp; (try (with_reducible rfl))
        try simp only [Act.put]
        refine wpAnyG_done (by kernel_rfl) ?_ _
        go_simp
        go_wp2_with fail
        go_ret
        exact ⟨rfl, (HcX.out.trans1 Hv12.out).toBelow⟩

set_option maxRecDepth 100000 in
theorem lifted (os : Os) (started : os.Started) (H : Type) (enc : TypeId × Value → H) :
    ReturnsInHanded {} Try.checked os 3 .any (Rows.lassoWordsSpec.pre6 enc Try.prog Try.f3 Rows.lassoWordsRow.domain false) (Rows.lassoWordsSpec.post enc Try.prog Try.f3 false true false false) := by
  refine returnsInHanded_of_change_sized (C := Try.checked) own started (by kernel_rfl) Try.func3
    (ChangeSpec.witness6 (enc := enc) (C := Try.checked) false ⟨#[], #[.agg #[.slice none 0 0, .slice none 0 0], .agg #[.slice none 0 0, .slice none 0 0], .int .u64 0], []⟩ 8 (by kernel_rfl) (by kernel_rfl) (by kernel_rfl) (by kernel_rfl)) ?_
  intro W base args ds gs before hval0 hW hcnd hsz0 _
  have hval : ∀ (j : Nat) t v, Try.f3.params[j]? = some t → args[j]? = some v → Value.okWide Try.prog W .any base t v := hval0
  have hsz : (DataW.weightsEach Try.prog (Try.f3.params.toList ++ Rows.lassoWordsSpec.plain.varTypes Try.prog) (ds ++ gs)).all (· ≤ reachBytes) = true := hsz0
  have hW' := hW
  obtain ⟨p, q, hA0, hV, rfl, hfz, hnd⟩ := hW
  have hA : DataW.TrodAll enc Try.prog W 0 (fun _ => true) true Try.f3.params.toList args.toList ds p := hA0
  rw [Try.params3] at hA hval hsz
  obtain ⟨v0, vs0, d0, ds0, p0, q0, hargs, rfl, rfl, h0, r0⟩ := trodAll_cons hA
  obtain ⟨v1, vs1, d1, ds1, p1, q1, rfl, rfl, rfl, h1, r1⟩ := trodAll_cons r0
  obtain ⟨v2, vs2, d2, ds2, p2, q2, rfl, rfl, rfl, h2, r2⟩ := trodAll_cons r1
  obtain ⟨rfl, rfl, rfl⟩ := trodAll_nil r2
  obtain rfl : args = #[v0, v1, v2] := by cases args; simp_all
  obtain ⟨rfl, rfl⟩ := trodVars_none hV
  have k0 := h0
  have lt0 : ∀ x ∈ p0, x.block < W.heap.size := by obtain ⟨m, hm⟩ := k0; exact DataW.trod_lt m _ _ _ hm
  have k1 := h1
  have lt1 : ∀ x ∈ p1, x.block < W.heap.size := by obtain ⟨m, hm⟩ := k1; exact DataW.trod_lt m _ _ _ hm
  have k2 := h2
  have lt2 : ∀ x ∈ p2, x.block < W.heap.size := by obtain ⟨m, hm⟩ := k2; exact DataW.trod_lt m _ _ _ hm
  obtain ⟨l0, hl0⟩ := open_las (hval 0 24 v0 rfl rfl) h0 (sized_at hsz (j := 0) rfl rfl)
  obtain ⟨l1, hl1⟩ := open_las (hval 1 24 v1 rfl rfl) h1 (sized_at hsz (j := 1) rfl rfl)
  obtain ⟨a2, rfl, _, _, w2⟩ := open_int Try.underlying25 (hval 2 25 v2 rfl rfl) h2
  clear hA0 hval0
  refine (walk v0 l0 v1 l1 a2 w2 W hl0 hl1).mono fun e W' ⟨he, bel⟩ => ?_
  subst he
  exact ⟨_, rfl, _, _, _, [], _, [], hW', trodAll_mk1 (shut_bool Try.underlying4 _), (trodAll_cons_mk (Below.trod laidOut (by kernel_rfl) (of_decide_eq_true (by kernel_rfl)) k0 bel lt0) (trodAll_cons_mk (Below.trod laidOut (by kernel_rfl) (of_decide_eq_true (by kernel_rfl)) k1 bel lt1) (trodAll_cons_mk (Below.trod laidOut (by kernel_rfl) (of_decide_eq_true (by kernel_rfl)) k2 bel lt2) trodAll_mk0))), rfl, bel.frame _, fun h => by cases h⟩

theorem over : Rows.lassoWordsRow.holds Try.pinned (OpenSpec.ofChange Rows.lassoWordsSpec) :=
  OpenClaim.holds_of_wide 3 Try.f3 rfl rfl rfl rfl rfl rfl rfl ⟨rfl, rfl, rfl, rfl, rfl⟩ rfl rfl rfl rfl rfl (by kernel_rfl) Try.func3 (by kernel_rfl)
    (of_decide_eq_true (by kernel_rfl)) (by unfold Func.isWrapper; rw [if_neg (of_decide_eq_false (by kernel_rfl))]; exact ⟨rfl, rfl⟩)
    (fun os started H enc _ => lifted os started H enc)

theorem proved : Rows.LassoWordsSaid :=
  over
end Go.Proofs.Ytkgfdgfhpdhhaaa.lassoWords
