/- The law AlternateSuffix but for its frame: whatever the automaton and the word, it returns true. Condition: they lie in the world. -/
import Derived.Test.YtkgfdgfhpdhhaaaGreatU19
import Derived.Test.YtkgfdgfhpdhhaaaGreatU24
namespace Go.Proofs.YtkgfdgfhpdhhaaaGreat
open Go.ChangeShapes Go.WideShapes Go.ChangeAt Go.RowKit
attribute [local go_sem] Oper.semAt_some
section
variable {H : Type} {enc : TypeId × Value → H} {W : World}
theorem alt_cap {n ci m cs : Nat} {ai as' : Option Addr} {d : DataW H} {p : List MemPlace} (h : DataW.Trod enc Tryz.prog W 0 (fun _ => true) true 38 (.agg #[.slice ai n ci, .slice as' m cs]) d p) : n ≤ ci := by
  obtain ⟨fuel, hf⟩ := h
  obtain ⟨y0, y1, n', hx, hl, h0, h1⟩ := trod_struct2 Tryz.underlying38 hf
  have e35 : Tryz.prog.cellsOf 35 = 1 := by kernel_rfl
  simp only [Value.cells] at h0
  simp only [e35] at h0
  rcases Go.Deep.open_slice Tryz.underlying35 h0 with ⟨hcs, _⟩ | ⟨a, len, cap, m', n2, D, Pl, hcs, _, hl2, hm, hmm, hx2, hi⟩
  · simp at hcs; omega
  · simp at hcs; omega
end
theorem ustep {w2 W : World} {ub : Nat} (j : Nat) {cs : Array Value} {B : Nat} {v : Value} {N M : List Int} {ao : Option Addr} {c : Nat} (hb : W.heap[ub]? = some (.cells cs 28 (0, 0))) (hc : Chg Nob w2 W) (hub : w2.heap.size ≤ ub) (hrow : W.ownsRow B 53 1 v N.length (uvs N)) (hB : w2.heap.size ≤ B) (hBW : B ≤ W.heap.size) (hM : URow W ao M) (hnil : ao = none → c = 0) (hl : N.length + M.length ≤ 10000) :
    ∃ a' c' W1, (Builtin.append_ #[26, 26] 26 #[v, .slice ao M.length c]).run Tryz.prog W = .ok (.slice a' (N.length + M.length) c') W1 ∧ W1.heap[ub]? = some (.cells cs 28 (0, 0)) ∧
      (W1.setCell ⟨ub, j, none⟩ (.slice a' (N.length + M.length) c')).heap[ub]? = some (.cells (cs.setIfInBounds j (.slice a' (N.length + M.length) c')) 28 (0, 0)) ∧ Chg Nob w2 (W1.setCell ⟨ub, j, none⟩ (.slice a' (N.length + M.length) c')) ∧
      (W1.setCell ⟨ub, j, none⟩ (.slice a' (N.length + M.length) c')).ownsRow B 53 1 (.slice a' (N.length + M.length) c') (N.length + M.length) (uvs (N ++ M)) ∧ Chg (fun q => q = ub ∨ v.ownBlock = some q) W (W1.setCell ⟨ub, j, none⟩ (.slice a' (N.length + M.length) c')) := by
  obtain ⟨v', W1, hrun, hown, hg⟩ := append_u (c := c) hrow hBW (by omega) hM hnil
  obtain ⟨a', c', rfl⟩ := ownsRow_shape hown
  have h53 : ∀ q, v.ownBlock = some q → q ≠ ub := fun q hq e => by
    subst e
    obtain ⟨cs', m', h⟩ := ownsRow_block hrow q hq
    rw [hb] at h
    simp at h
  have hc1 : Chg (fun q => v.ownBlock = some q) W W1 := (Chg.refl _ _).grown hg (fun q hq _ => hq)
  have hb1 := hc1.at hb (fun e => h53 _ e rfl)
  have hset : Chg (At1 ub) W1 (W1.setCell ⟨ub, j, none⟩ (.slice a' (N.length + M.length) c')) := (Chg.refl (At1 ub) W1).setCell (p := ⟨ub, j, none⟩) (fun _ => rfl) _
  have hall : Chg (fun q => q = ub ∨ v.ownBlock = some q) W (W1.setCell ⟨ub, j, none⟩ (.slice a' (N.length + M.length) c')) := (hc1.mono (fun _ _ e => .inr e)).trans hset (fun _ _ e => .inl e)
  refine ⟨a', c', W1, hrun, hb1, ?_, hc.trans hall (fun i hi e => ?_), ?_, hall⟩
  · simp [World.setCell, Array.getElem?_modify, hb1]
  · rcases e with rfl | e
    · omega
    · have := (hrow.lt i e).1; omega
  · have := ownsRow_chg hown hset (fun q hq e => by
      have e : q = ub := e
      subst e
      obtain ⟨cs', m', h⟩ := ownsRow_block hown q hq
      rw [hb1] at h
      simp at h)
    unfold uvs at this ⊢
    rw [List.map_append]
    exact this
set_option maxRecDepth 100000 in
set_option maxHeartbeats 8000000 in
theorem suffix_walk (hk : ∀ W, Calls Tryz.prog 8 #[] W fun e w' => e = .returned (.bool true) ∧ Chg Nob W w') (w : World) (v0 v1 : Value) {ai as' ap al : Option Addr} {ci cs cp cl : Nat} {I : List (List Int)} {S : List Sti} {P L : List Int} (k0 : AltIn w v0 ai ci I as' cs S) (hcap : I.length ≤ ci) (k1 : LasZ w v1 ap cp P al cl L) :
    Calls Tryz.prog 4 #[v0, v1] w fun e w' => e = .returned (.bool true) ∧ Below w.heap.size w w' := by
  obtain ⟨rfl, hI, hS, hsets, hstates, hok, hfew⟩ := k0
  obtain ⟨rfl, hl, hP, hL, hU, hnp, hnl⟩ := k1
  obtain ⟨X1, hX1, hcX1, hbX1, hsX1⟩ := box_cells w #[.slice ai I.length ci, .slice as' S.length cs] 38
  obtain ⟨X, hX, hcX2, hbX2, hsX2⟩ := box_cells X1 #[.slice ap P.length cp, .slice al L.length cl] 28
  obtain ⟨ab, hab⟩ : ∃ ab, ab = w.heap.size := ⟨_, rfl⟩
  rw [hsX1] at hbX2 hsX2
  rw [← hab] at hbX1 hsX1 hbX2 hsX2
  have hcX : Chg Nob w X := hcX1.trans1 hcX2
  have hbA := hcX2.at hbX1 (fun e => e)
  have hac : Calls Tryz.prog 12 #[.agg #[.slice ai I.length ci, .slice as' S.length cs], .agg #[.slice ap P.length cp, .slice al L.length cl]] X (AccPost I S P L X) := accepts_any (by omega) (by omega) (hsets.nob hcX) (hstates.nob hcX) (by omega) (hP.nob hcX) (hL.nob hcX) hnp hnl
  have HX : Hid (Chg Nob w X) := Lib.hid hcX
  have HA := Lib.hid hbA
  have HB := Lib.hid hbX2
  have HI := Lib.hid (hsets.nob hcX)
  have HS := Lib.hid (hstates.nob hcX)
  have HP := Lib.hid (hP.nob hcX)
  have HL := Lib.hid (hL.nob hcX)
  have Hsum : Hid (S.length + sumN S ≤ 2000000000000) := (show S.length + sumN S ≤ 2000000000000 by
    have h1 := sumN_few hfew
    have h2 : 1048576 * S.length ≤ 1048576 * 1048576 := Nat.mul_le_mul_left _ hS
    omega)
  have Hnp := Lib.hid hnp
  have Hnl := Lib.hid hnl
  have Hk := Lib.hid hk
  have HX1 := Lib.hid hX1
  have HXe := Lib.hid hX
  have Hab := Lib.hid hab
  have HsX : Hid (X.heap.size = ab + 1 + 1) := Lib.hid hsX2
  have HsX1 : Hid (X1.heap.size = ab + 1) := Lib.hid hsX1
  obtain ⟨a0, a1, _⟩ := cell_two hbA
  obtain ⟨b0, b1, _⟩ := cell_two hbX2
  clear hX hX1 hcX hcX1 hcX2 hbX1 hbX2 hbA hsX1 hsX2 hsets hstates hP hL hU hok hfew hnp hnl hk hab
  go_enter Tryz.func4, Tryz.ntmps4
  go_upto_region 1 with fail
  rw [← HX1.out, ← HXe.out, ← Hab.out]
  go_wp2_with fail
  (with_reducible refine hac.mono ?_)
  clear hac a0 a1 b0 b1
  rintro e w1 ⟨rfl, hc1⟩
  have H1 := Lib.hid hc1
  have hkw : ∀ W, Chg Nob X W → Calls Tryz.prog 8 #[] W fun e w' => e = .returned (.bool true) ∧ Chg Nob W w' := fun W _ => Hk.out W
  obtain ⟨code, hcode⟩ : ∃ code, code = accCode I S P.length L.length := ⟨_, rfl⟩
  obtain ⟨is, his⟩ : ∃ is, is = accB I S P L := ⟨_, rfl⟩
  rw [← hcode, ← his]
  have Hcode := Lib.hid hcode
  have His := Lib.hid his
  clear hc1 hcode his
  by_cases h0 : code = 0
  · subst h0
    obtain ⟨a0, a1, _⟩ := cell_two (H1.out.at HA.out (fun e => e))
    obtain ⟨b0, b1, _⟩ := cell_two (H1.out.at HB.out (fun e => e))
    have hli : Calls Tryz.prog 13 #[.agg #[.slice ai I.length ci, .slice as' S.length cs], .agg #[.slice ap P.length cp, .slice al L.length cl]] w1 fun e w' => e = .returned (.bool (littleB S P.length L.length)) ∧ Chg Nob w1 w' := little_any (by omega) (HS.out.nob H1.out) (by omega) Hsum.out
    go_wp2_with fail
    (with_reducible refine hli.mono ?_)
    clear hli a0 a1 b0 b1
    rintro e w2 ⟨rfl, hc2⟩
    have H2 : Hid (Chg Nob X w2) := (show Chg Nob X w2 from H1.out.trans1 hc2)
    have HbA := Lib.hid (H2.out.at HA.out (fun e => e))
    have HbB := Lib.hid (H2.out.at HB.out (fun e => e))
    obtain ⟨b0, b1, _⟩ := cell_two HbB.out
    clear hc2
    cases littleB S P.length L.length with
    | false =>
      go_wp2_with fail
      (with_reducible refine (Hk.out _).mono ?_)
      rintro e w3 ⟨rfl, hc3⟩
      have H3 : Hid (Chg Nob w w3) := (show Chg Nob w w3 from (HX.out.trans1 H2.out).trans1 hc3)
      clear hc3
      go_wp2_with fail
      go_ret
      exact ⟨rfl, H3.out.toBelow⟩
    | true =>
      by_cases hbig : 200 < P.length + 2 * L.length
      · have hbi : (200 : Int) < (P.length : Int) + 2 * (L.length : Int) := by omega
        go_wp2_with fail
        (with_reducible refine (Hk.out _).mono ?_)
        rintro e w3 ⟨rfl, hc3⟩
        have H3 : Hid (Chg Nob w w3) := (show Chg Nob w w3 from (HX.out.trans1 H2.out).trans1 hc3)
        clear hc3
        go_wp2_with fail
        go_ret
        exact ⟨rfl, H3.out.toBelow⟩
      · have hbi : ¬ (200 : Int) < (P.length : Int) + 2 * (L.length : Int) := by omega
        obtain ⟨hck0, hL0, hPL⟩ := code_zero Hcode.out.symm
        obtain ⟨hcode2, htell⟩ := accB_tell Hcode.out.symm (by omega)
        have Hone := Lib.hid (show ∀ (i : Nat) (l : List Int), I[i]? = some l → accCode [l] S P.length L.length = 0 ∧ accB [l] S P L = allR (rowsI S (P ++ L) P.length S.length) l 0 from fun i l h => accB_one Hcode.out.symm h)
        have Hall := Lib.hid (accB_all (I := I) (S := S) (P := P) (L := L) Hcode.out.symm)
        obtain ⟨U0, hU0, hcU0, hbU0, hsU0⟩ := box_cells w2 #[.slice none 0 0, .slice none 0 0] 28
        obtain ⟨ub, hub⟩ : ∃ ub, ub = w2.heap.size := ⟨_, rfl⟩
        rw [← hub] at hbU0 hsU0
        have hlub : ab + 1 < ub := by have := H2.out.size; have := HsX.out; omega
        obtain ⟨q1, c1, W1, hr1, hbW1, hbV1, hcV1, hrV1, hxV1⟩ := ustep (w2 := w2) 0 (N := []) (v := .slice none 0 0) (M := P) (c := cp) (B := U0.heap.size) hbU0 hcU0 (by omega) (World.ownsRow_nil _ _ _ _) hcU0.size (Nat.le_refl _) (HP.out.nob (H2.out.trans1 hcU0)) Hnp.out (by simp; omega)
        simp only [List.length_nil, Nat.zero_add, List.nil_append] at hr1 hbV1 hcV1 hrV1 hxV1
        obtain ⟨V1, hV1⟩ : ∃ V1, V1 = W1.setCell ⟨ub, 0, none⟩ (.slice q1 P.length c1) := ⟨_, rfl⟩
        rw [← hV1] at hbV1 hcV1 hrV1 hxV1
        have hbV1 : V1.heap[ub]? = some (.cells #[.slice q1 P.length c1, .slice none 0 0] 28 (0, 0)) := hbV1
        obtain ⟨q2, c2, W2, hr2, hbW2, hbV2, hcV2, hrV2, hxV2⟩ := ustep (w2 := w2) 0 (M := L) (c := cl) hbV1 hcV1 (by omega) hrV1 hcU0.size (by have := hxV1.size; omega) (HL.out.nob (H2.out.trans1 hcV1)) Hnl.out (by omega)
        obtain ⟨V2, hV2⟩ : ∃ V2, V2 = W2.setCell ⟨ub, 0, none⟩ (.slice q2 (P.length + L.length) c2) := ⟨_, rfl⟩
        rw [← hV2] at hbV2 hcV2 hrV2 hxV2
        have hbV2 : V2.heap[ub]? = some (.cells #[.slice q2 (P.length + L.length) c2, .slice none 0 0] 28 (0, 0)) := hbV2
        obtain ⟨q3, c3, W3, hr3, hbW3, hbV3, hcV3, hrV3, hxV3⟩ := ustep (w2 := w2) 1 (N := []) (v := .slice none 0 0) (M := L) (c := cl) (B := V2.heap.size) hbV2 hcV2 (by omega) (World.ownsRow_nil _ _ _ _) hcV2.size (Nat.le_refl _) (HL.out.nob (H2.out.trans1 hcV2)) Hnl.out (by simp; omega)
        simp only [List.length_nil, Nat.zero_add, List.nil_append] at hr3 hbV3 hcV3 hrV3 hxV3
        obtain ⟨V3, hV3⟩ : ∃ V3, V3 = W3.setCell ⟨ub, 1, none⟩ (.slice q3 L.length c3) := ⟨_, rfl⟩
        rw [← hV3] at hbV3 hcV3 hrV3 hxV3
        have hbV3 : V3.heap[ub]? = some (.cells #[.slice q2 (P.length + L.length) c2, .slice q3 L.length c3] 28 (0, 0)) := hbV3
        obtain ⟨q4, c4, W4, hr4, hbW4, hbV4, hcV4, hrV4, hxV4⟩ := ustep (w2 := w2) 1 (M := L) (c := cl) hbV3 hcV3 (by omega) hrV3 hcV2.size (by have := hxV3.size; omega) (HL.out.nob (H2.out.trans1 hcV3)) Hnl.out (by omega)
        obtain ⟨V4, hV4⟩ : ∃ V4, V4 = W4.setCell ⟨ub, 1, none⟩ (.slice q4 (L.length + L.length) c4) := ⟨_, rfl⟩
        rw [← hV4] at hbV4 hcV4 hrV4 hxV4
        have hbV4 : V4.heap[ub]? = some (.cells #[.slice q2 (P.length + L.length) c2, .slice q4 (L.length + L.length) c4] 28 (0, 0)) := hbV4
        have hn2 : ∀ q, (Value.slice q2 (P.length + L.length) c2).ownBlock = some q → q ≠ ub ∧ q < V2.heap.size := fun q hq => ⟨fun e => by
          subst e
          obtain ⟨cs', m', h⟩ := ownsRow_block hrV2 q hq
          rw [hbV2] at h
          simp at h, (hrV2.lt q hq).2⟩
        have hrB3 := ownsRow_chg hrV2 hxV3 (fun q hq e => by
          rcases e with e | e
          · exact (hn2 q hq).1 e
          · simp [Value.ownBlock] at e)
        have hrB4 := ownsRow_chg hrB3 hxV4 (fun q hq e => by
          rcases e with e | e
          · exact (hn2 q hq).1 e
          · have h1 := (hrV3.lt q e).1; have h2 := (hn2 q hq).2; omega)
        obtain ⟨g2, k2, e2, hu2⟩ := URow.ownz hrB4 (by rw [List.length_append]) (by omega)
        obtain ⟨g4, k4, e4, hu4⟩ := URow.ownz hrV4 (by rw [List.length_append]) (by omega)
        have hac2 : Calls Tryz.prog 12 #[.agg #[.slice ai I.length ci, .slice as' S.length cs], .agg #[.slice q2 (P.length + L.length) c2, .slice q4 (L.length + L.length) c4]] V4 fun e w' => e = .returned (.tuple #[.bool is, .int .i64 0]) ∧ Chg Nob V4 w' := by
          rw [e2, e4]
          have := accepts_any (ci := ci) (cs := cs) (cp := k2) (cl := k4) (by omega) (by omega) (HI.out.nob (H2.out.trans1 hcV4)) (HS.out.nob (H2.out.trans1 hcV4)) (by rw [List.length_append, List.length_append]; omega) hu2 hu4 (fun e => by cases e) (fun e => by cases e)
          unfold AccPost at this
          rw [hcode2, htell, ← His.out] at this
          exact this
        have HV4 : Hid (Chg Nob X V4) := (show Chg Nob X V4 from H2.out.trans1 hcV4)
        have HA4 := Lib.hid (HV4.out.at HA.out (fun e => e))
        have HB4 := Lib.hid (HV4.out.at HB.out (fun e => e))
        obtain ⟨u00, u01, uf0, uf1⟩ := cell_two hbU0
        obtain ⟨p00, p01, _⟩ := cell_two ((H2.out.trans1 hcU0).at HB.out (fun e => e))
        obtain ⟨u10, u11, _, _⟩ := cell_two hbW1
        obtain ⟨u20, u21, _, _⟩ := cell_two hbV1
        obtain ⟨p10, p11, _⟩ := cell_two ((H2.out.trans1 hcV1).at HB.out (fun e => e))
        obtain ⟨u30, u31, _, _⟩ := cell_two hbW2
        obtain ⟨u40, u41, _, _⟩ := cell_two hbV2
        obtain ⟨p20, p21, _⟩ := cell_two ((H2.out.trans1 hcV2).at HB.out (fun e => e))
        obtain ⟨u50, u51, _, _⟩ := cell_two hbW3
        obtain ⟨u60, u61, _, _⟩ := cell_two hbV3
        obtain ⟨p30, p31, _⟩ := cell_two ((H2.out.trans1 hcV3).at HB.out (fun e => e))
        obtain ⟨u70, u71, _, _⟩ := cell_two hbW4
        obtain ⟨u80, u81, _, _⟩ := cell_two hbV4
        obtain ⟨a40, a41, _⟩ := cell_two HA4.out
        have Hr1 := Lib.hid hr1
        have Hr2 := Lib.hid hr2
        have Hr3 := Lib.hid hr3
        have Hr4 := Lib.hid hr4
        have HU0 := Lib.hid hU0
        have HV1 := Lib.hid hV1
        have HV2 := Lib.hid hV2
        have HV3 := Lib.hid hV3
        have HV4e := Lib.hid hV4
        have Hub := Lib.hid hub
        clear hr1 hr2 hr3 hr4 hU0 hV1 hV2 hV3 hV4 hbU0 hbW1 hbW2 hbW3 hbW4 hbV1 hbV2 hbV3 hbV4 hcU0 hcV1 hcV2 hcV3 hcV4 hrV1 hrV2 hrV3 hrV4 hxV1 hxV2 hxV3 hxV4 hn2 hrB3 hrB4 e2 e4 hu2 hu4 hsU0 hub htell hcode2 hck0
        go_upto_region 5 with fail
        rw [← HU0.out, ← Hub.out]
        go_upto_region 6 with (refine wpList_append_known rfl _ _ 26 26 rfl _ _ rfl rfl _ W1 Hr1.out ?_)
        rw [← HV1.out]
        clear u00 u01 p00 p01 u10 u11
        go_upto_region 7 with (refine wpList_append_known rfl _ _ 26 26 rfl _ _ rfl rfl _ W2 Hr2.out ?_)
        rw [← HV2.out]
        clear u20 u21 p10 p11 u30 u31
        go_upto_region 8 with (refine wpList_append_known rfl _ _ 26 26 rfl _ _ rfl rfl _ W3 Hr3.out ?_)
        rw [← HV3.out]
        clear u40 u41 p20 p21 u50 u51
        go_upto_region 9 with (refine wpList_append_known rfl _ _ 26 26 rfl _ _ rfl rfl _ W4 Hr4.out ?_)
        rw [← HV4e.out]
        clear u60 u61 p30 p31 u70 u71
        go_wp2_with fail
        (with_reducible refine hac2.mono ?_)
        clear hac2 u80 u81 a40 a41
        rintro e w5 ⟨rfl, hc5⟩
        obtain ⟨O0, hO0, hcO0, hbO0, hsO0⟩ := box_cells w5 #[.slice none 0 0, .slice none 0 0] 38
        obtain ⟨ob, hob⟩ : ∃ ob, ob = w5.heap.size := ⟨_, rfl⟩
        rw [← hob] at hbO0
        have H5 : Hid (Chg Nob X w5) := (show Chg Nob X w5 from HV4.out.trans1 hc5)
        have hlob : ab + 1 < ob := by have := H5.out.size; have := HsX.out; omega
        obtain ⟨O1, hO1⟩ : ∃ O1, O1 = O0.setCell ⟨ob, 1, none⟩ (.slice as' S.length cs) := ⟨_, rfl⟩
        have hcO1 : Chg (At1 ob) O0 O1 := by rw [hO1]; exact (Chg.refl (At1 ob) O0).setCell (p := ⟨ob, 1, none⟩) (fun _ => rfl) _
        have hbO1 : O1.heap[ob]? = some (.cells #[.slice none 0 0, .slice as' S.length cs] 38 (0, 0)) := by rw [hO1]; exact block_two_set1 hbO0
        have HO1 : Hid (Chg Nob X O1) := (show Chg Nob X O1 from (H5.out.trans1 hcO0).trans hcO1 (fun i hi e => by have e : i = ob := e; have := H5.out.size; omega))
        obtain ⟨o00, o01, of0, of1⟩ := cell_two hbO0
        obtain ⟨z0, z1, _⟩ := cell_two ((H5.out.trans1 hcO0).at HA.out (fun e => e))
        have HbO1 : Hid (∃ x, O1.heap[ob]? = some (.cells #[x, .slice as' S.length cs] 38 (0, 0))) := (show ∃ x, O1.heap[ob]? = some (.cells #[x, .slice as' S.length cs] 38 (0, 0)) from ⟨_, hbO1⟩)
        have HO0e := Lib.hid hO0
        have HO1e := Lib.hid hO1
        have Hob := Lib.hid hob
        clear hO0 hO1 hcO0 hbO0 hsO0 hob hcO1 hbO1 hc5
        obtain ⟨f, hf⟩ : ∃ f : List Int → Bool, f = fun l => allR (rowsI S (P ++ L) P.length S.length) l 0 := ⟨_, rfl⟩
        have HoneF : Hid (∀ (i : Nat) (l : List Int), I[i]? = some l → accCode [l] S P.length L.length = 0 ∧ accB [l] S P L = f l) := (show ∀ (i : Nat) (l : List Int), I[i]? = some l → accCode [l] S P.length L.length = 0 ∧ accB [l] S P L = f l by rw [hf]; exact Hone.out)
        have HallF : Hid (is = I.any f) := (show is = I.any f by rw [hf, His.out]; exact Hall.out)
        clear hf Hone Hall
        go_upto_region 11 with fail
        rw [← HO0e.out, ← Hob.out]
        go_upto_region 12 with fail
        rw [← HO1e.out]
        clear o00 o01 of0 of1 z0 z1
        go_wp2_with fail
        go_loopw [11, 12] (fun sv iv wr => ∃ k : Nat, iv = .int .i64 (k : Int) ∧ k ≤ I.length ∧ k ≤ 50 ∧ sv = .bool ((I.take k).any f) ∧ Hid (∃ x, wr.heap[ob]? = some (.cells #[x, .slice as' S.length cs] 38 (0, 0))) ∧ Hid (Chg Nob X wr)) (fun _ iv _ => 50 - (intOf iv).toNat)
        case atStart => exact ⟨0, rfl, Nat.zero_le _, Nat.zero_le _, rfl, HbO1, HO1⟩
        case round =>
          obtain ⟨k, rfl, hkI, hk50, rfl, Hbx, Hc⟩ := hrel
          obtain ⟨sb, hsb⟩ : ∃ sb, sb = (I.take k).any f := ⟨_, rfl⟩
          rw [← hsb]
          have Hsb := Lib.hid hsb
          clear hsb
          obtain ⟨x, hbx⟩ := Hbx.out
          obtain ⟨y0, y1, yf0, yf1⟩ := cell_two hbx
          obtain ⟨z0, z1, _⟩ := cell_two (Hc.out.at HA.out (fun e => e))
          have hk0 : (0 : Int) ≤ (k : Int) := by omega
          by_cases h1 : k < I.length ∧ k < 50
          · have hki : (k : Int) < (I.length : Int) := by omega
            have hk5 : (k : Int) < 50 := by omega
            obtain ⟨l, hlk⟩ : ∃ l, I[k]? = some l := ⟨_, List.getElem?_eq_getElem h1.1⟩
            obtain ⟨a, at', ct, hai, hcell, hll, hir⟩ := (HI.out.nob Hc.out) k l hlk
            obtain ⟨hco, hbo⟩ := HoneF.out k l hlk
            have hstep : (I.take (k + 1)).any f = (sb || f l) := by rw [List.take_add_one, hlk, List.any_append, ← Hsb.out]; simp
            subst hai
            obtain ⟨Z, hZ⟩ : ∃ Z, Z = wr.setCell ⟨ob, 0, none⟩ (.slice (some (a.add k)) 1 (ci - k)) := ⟨_, rfl⟩
            have hcZ : Chg (At1 ob) wr Z := by rw [hZ]; exact (Chg.refl (At1 ob) wr).setCell (p := ⟨ob, 0, none⟩) (fun _ => rfl) _
            have hbZ : Z.heap[ob]? = some (.cells #[.slice (some (a.add k)) 1 (ci - k), .slice as' S.length cs] 38 (0, 0)) := by rw [hZ]; exact block_two_set0 hbx
            have hXZ : Chg Nob X Z := Hc.out.trans hcZ (fun i hi e => by have e : i = ob := e; have := H5.out.size; have := Hob.out; omega)
            have hLR : LRow Z (some (a.add k)) [l] := fun j m hj => by
              have hj0 : j = 0 := by have := (List.getElem?_eq_some_iff.1 hj).1; simp at this; omega
              subst hj0
              cases hj
              obtain ⟨a', at2, ct2, e2, hcell2, hll2, hir2⟩ := (HI.out.nob hXZ) k l hlk
              cases e2
              refine ⟨_, at2, ct2, rfl, ?_, hll2, hir2⟩
              rw [show (a.add k).add 0 = a.add k by unfold Addr.add; simp]
              exact hcell2
            have hacc : Calls Tryz.prog 12 #[.agg #[.slice (some (a.add k)) 1 (ci - k), .slice as' S.length cs], .agg #[.slice ap P.length cp, .slice al L.length cl]] Z fun e w' => e = .returned (.tuple #[.bool (f l), .int .i64 0]) ∧ Chg Nob Z w' := by
              have := accepts_any (ci := ci - k) (cs := cs) (cp := cp) (cl := cl) (I := [l]) (by simp) (by omega) hLR (HS.out.nob hXZ) (by omega) (HP.out.nob hXZ) (HL.out.nob hXZ) Hnp.out Hnl.out
              unfold AccPost at this
              rw [hco, hbo] at this
              exact this
            obtain ⟨zz0, zz1, _⟩ := cell_two hbZ
            obtain ⟨bb0, bb1, _⟩ := cell_two (hXZ.at HB.out (fun e => e))
            have HZ := Lib.hid hXZ
            have HbZ := Lib.hid hbZ
            have HZe := Lib.hid hZ
            have Hstep := Lib.hid hstep
            have hci : (k : Int) + 1 ≤ (ci : Int) := by omega
            clear hZ hcZ hbZ hXZ hLR hco hbo hcell hll hir hstep hbx hlk
            go_upto_region 17 with fail
            rw [← HZe.out]
            clear y0 y1 yf0 yf1 z0 z1
            go_wp2_with fail
            (with_reducible refine hacc.mono ?_)
            clear hacc zz0 zz1 bb0 bb1
            rintro e w6 ⟨rfl, hc6⟩
            have Hb6 : Hid (∃ x, w6.heap[ob]? = some (.cells #[x, .slice as' S.length cs] 38 (0, 0))) := (show ∃ x, w6.heap[ob]? = some (.cells #[x, .slice as' S.length cs] 38 (0, 0)) from ⟨_, hc6.at HbZ.out (fun e => e)⟩)
            have H6 : Hid (Chg Nob X w6) := (show Chg Nob X w6 from HZ.out.trans1 hc6)
            clear hc6
            cases sb with
            | true =>
              have Hs2 : Hid (true = (I.take (k + 1)).any f) := (show true = (I.take (k + 1)).any f by rw [Hstep.out]; rfl)
              go_wp2_with fail
              go_roundw
              case rel => exact ⟨k + 1, by go_num, by omega, by omega, by rw [← Hs2.out], Hb6, H6⟩
              case measure => simp [intOf]; omega
            | false =>
              have Hs2 : Hid (f l = (I.take (k + 1)).any f) := (show f l = (I.take (k + 1)).any f by rw [Hstep.out]; rfl)
              go_wp2_with fail
              go_roundw
              case rel => exact ⟨k + 1, by go_num, by omega, by omega, by rw [← Hs2.out], Hb6, H6⟩
              case measure => simp [intOf]; omega
          · have Hend : Hid (I.length ≤ 50 → sb = is) := (show I.length ≤ 50 → sb = is from fun h => by
              have hke : k = I.length := by omega
              rw [Hsb.out, HallF.out, hke, List.take_length])
            have Hex : ∀ (W : World), Hid (Chg Nob X W) → Hid (Chg Nob w W) := fun W h => Lib.hid (HX.out.trans1 h.out)
            have hlast := Hk.out wr
            clear hbx yf0 yf1
            by_cases h50 : I.length ≤ 50
            · obtain rfl := Hend.out h50
              by_cases hki : k < I.length
              · have hk5 : ¬ k < 50 := fun e => h1 ⟨hki, e⟩
                have hki2 : (k : Int) < (I.length : Int) := by omega
                omega
              · have hki2 : ¬ (k : Int) < (I.length : Int) := by omega
                go_wp2_with fail
                (with_reducible refine hlast.mono ?_)
                clear hlast z0 z1
                rintro e w7 ⟨rfl, hc7⟩
                have H7 : Hid (Chg Nob w w7) := (show Chg Nob w w7 from (HX.out.trans1 Hc.out).trans1 hc7)
                clear hc7
                go_wp2_with fail
                go_ret
                exact ⟨rfl, H7.out.toBelow⟩
            · have hki2 : (k : Int) < (I.length : Int) := by omega
              have hk5 : ¬ (k : Int) < 50 := by omega
              have h5i : (50 : Int) < (I.length : Int) := by omega
              have h5d : decide ((k : Int) < 50) = false := decide_eq_false hk5
              have hEx : Hid (∀ w7, Chg Nob wr w7 → Below w.heap.size w w7) := (show ∀ w7, Chg Nob wr w7 → Below w.heap.size w w7 from fun w7 h => ((HX.out.trans1 Hc.out).trans1 h).toBelow)
              clear Hend Hex
              cases sb with
              | true =>
                cases is with
                | true =>
                  go_wp2_with fail
                  (with_reducible refine hlast.mono ?_)
                  clear hlast z0 z1
                  rintro e w7 ⟨rfl, hc7⟩
                  have H7 : Hid (Chg Nob w w7) := (show Chg Nob w w7 from (HX.out.trans1 Hc.out).trans1 hc7)
                  clear hc7
                  go_wp2_with fail
                  go_ret
                  exact ⟨rfl, H7.out.toBelow⟩
                | false =>
                  go_wp2_with fail
                  (with_reducible refine hlast.mono ?_)
                  clear hlast z0 z1
                  rintro e w7 ⟨rfl, hc7⟩
                  have H7 : Hid (Chg Nob w w7) := (show Chg Nob w w7 from (HX.out.trans1 Hc.out).trans1 hc7)
                  clear hc7
                  go_wp2_with fail
                  go_ret
                  exact ⟨rfl, H7.out.toBelow⟩
              | false =>
                cases is with
                | true =>
                  go_wp2_with fail
                  (with_reducible refine hlast.mono ?_)
                  clear hlast z0 z1
                  rintro e w7 ⟨rfl, hc7⟩
                  have H7 : Hid (Chg Nob w w7) := (show Chg Nob w w7 from (HX.out.trans1 Hc.out).trans1 hc7)
                  clear hc7
                  go_wp2_with fail
                  go_ret
                  exact ⟨rfl, H7.out.toBelow⟩
                | false =>
                  go_wp2_with fail
                  (with_reducible refine hlast.mono ?_)
                  clear hlast z0 z1
                  rintro e w7 ⟨rfl, hc7⟩
                  have H7 : Hid (Chg Nob w w7) := (show Chg Nob w w7 from (HX.out.trans1 Hc.out).trans1 hc7)
                  clear hc7
                  go_wp2_with fail
                  go_ret
                  exact ⟨rfl, H7.out.toBelow⟩
  · have h0b : (code != 0) = true := by rw [bne, beq_eq_false_iff_ne.2 h0]; rfl
    have H0 := Lib.hid h0
    go_wp2_with fail
    (with_reducible refine (Hk.out _).mono ?_)
    rintro e w3 ⟨rfl, hc3⟩
    have H3 : Hid (Chg Nob w w3) := (show Chg Nob w w3 from (HX.out.trans1 H1.out).trans1 hc3)
    clear hc3
    go_wp2_with fail
    go_ret
    exact ⟨rfl, H3.out.toBelow⟩
end Go.Proofs.YtkgfdgfhpdhhaaaGreat
