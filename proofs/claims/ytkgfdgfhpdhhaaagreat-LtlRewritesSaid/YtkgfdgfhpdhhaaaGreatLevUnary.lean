/- The reader's innermost level. Conditions: the words lie in the world. -/
import Derived.Test.YtkgfdgfhpdhhaaaGreatLev
namespace Go.Proofs.YtkgfdgfhpdhhaaaGreat
open Go.ChangeShapes Go.WideShapes Go.RowKit

/-- What holds where the innermost level looks at a word. -/
structure Un (rb g o cap : Nat) (x : Tok) (L2 : List Tok) (w W2 : World) : Prop where
  rbl : rb < w.heap.size
  gl : g < w.heap.size
  c : Chg Nob w W2
  s : W2.heap.size = w.heap.size + 2
  b : W2.heap[w.heap.size]? = some (.cells #[.int .i64 0, .string ⟨#[]⟩, .slice none 0 0] 24 (0, 0))
  b2 : W2.heap[w.heap.size + 1]? = some (.cells #[.string ⟨x.1.toArray⟩, .int .i64 (x.2 : Int)] 121 (0, 0))
  r : Rs W2 rb g o cap (x :: L2)
section
variable {rb g o cap o5 cap5 : Nat} {x y : Tok} {L2 L3 : List Tok} {w W2 w4 w5 w6 : World} {k : Int} {u t : T} {b0 b1 b2 : Value}
theorem Un.signed (h : Un rb g o cap x L2 w W2) (hk : preOf x.1 = some k) (h24 : Chg (At1 rb) W2 w4) (h45 : Chg (At1 rb) w4 w5) (hG : G (.lev 5) L2 (.ok u L3)) (hFu : Fresh (Ge w4.heap.size) w5 u (.agg #[b0, b1, b2])) (hR : Rs w5 rb g o5 cap5 L3) (hE : Ends L3) (h56 : Chg Nob w5 w6)
    (hD : w6.heap[w5.heap.size + 2]? = some (.cells #[b0, b1, b2] 24 (0, 0))) :
    LevPost rb g 5 (x :: L2) w (.returned (.agg #[.int .i64 k, .string ⟨#[]⟩, .slice (some ⟨w5.heap.size + 2, 0, none⟩) 1 1])) (((w6.setCell ⟨w.heap.size, 0, none⟩ (.int .i64 k)).setCell ⟨w.heap.size, 1, none⟩ (.string ⟨#[]⟩)).setCell ⟨w.heap.size, 2, none⟩ (.slice (some ⟨w5.heap.size + 2, 0, none⟩) 1 1)) := by
  have hrb := h.rbl
  have hg := h.gl
  have hs := h.s
  have z24 := h24.size
  have z45 := h45.size
  have k6 := chg_three w6 w.heap.size (.int .i64 k) (.string ⟨#[]⟩) (.slice (some ⟨w5.heap.size + 2, 0, none⟩) 1 1)
  have k5 := (h56.any (S := At1 w.heap.size)).trans1 k6
  refine ⟨((h.c.any.trans1 h24).trans1 (h45.trans1 h56.any)).trans k6 (fun i hi e => by have e : i = w.heap.size := e; omega), _, .pre hk hG, _, o5, cap5, rfl, ?_, hR.at1 k5 (by omega) (by omega), hE⟩
  unfold one
  rw [Fresh]
  refine .inr ⟨w5.heap.size + 2, _, (by show _ ≤ _; omega), rfl, k6.at hD (fun e => by have e : w5.heap.size + 2 = w.heap.size := e; omega), by simp, ?_⟩
  rw [FreshL, FreshL]
  exact ⟨hFu.chg k5 (fun b hb hb2 e => by unfold Ge at hb; have e : b = w.heap.size := e; omega) (fun b hb => by unfold Ge at hb ⊢; omega), trivial⟩
theorem Un.leaf {nm : List UInt8} (h : Un rb g o cap x L2 w W2) (hk : preOf x.1 = none) (ha : atomOf x.1 = some (.node k nm [])) (h24 : Chg (At1 rb) W2 w4) (hR : Rs w4 rb g o5 cap5 L2) (hE : Ends L2) :
    LevPost rb g 5 (x :: L2) w (.returned (.agg #[.int .i64 k, .string ⟨nm.toArray⟩, .slice none 0 0])) (((w4.setCell ⟨w.heap.size, 0, none⟩ (.int .i64 k)).setCell ⟨w.heap.size, 1, none⟩ (.string ⟨nm.toArray⟩)).setCell ⟨w.heap.size, 2, none⟩ (.slice none 0 0)) := by
  have hrb := h.rbl
  have hg := h.gl
  have k6 := chg_three w4 w.heap.size (.int .i64 k) (.string ⟨nm.toArray⟩) (.slice none 0 0)
  refine ⟨(h.c.any.trans1 h24).trans k6 (fun i hi e => by have e : i = w.heap.size := e; omega), _, .atom hk ha, _, o5, cap5, rfl, ?_, hR.at1 k6 (by omega) (by omega), hE⟩
  rw [Fresh]
  exact .inl ⟨rfl, rfl⟩
theorem Un.par (h : Un rb g o cap x L2 w W2) (hx : x.1 = [40]) (h24 : Chg (At1 rb) W2 w4) (h45 : Chg (At1 rb) w4 w5) (hG : G (.lev 0) L2 (.ok t (y :: L3))) (hy : y.1 = [41]) (hF : Fresh (Ge w4.heap.size) w5 t (.agg #[b0, b1, b2])) (h56 : Chg (At1 rb) w5 w6) (hR : Rs w6 rb g o5 cap5 L3) (hE : Ends L3) :
    LevPost rb g 5 (x :: L2) w (.returned (.agg #[b0, b1, b2])) (((w6.setCell ⟨w.heap.size, 0, none⟩ b0).setCell ⟨w.heap.size, 1, none⟩ b1).setCell ⟨w.heap.size, 2, none⟩ b2) := by
  have hrb := h.rbl
  have hg := h.gl
  have hs := h.s
  have z24 := h24.size
  have k6 := chg_three w6 w.heap.size b0 b1 b2
  refine ⟨((h.c.any.trans1 h24).trans1 (h45.trans1 h56)).trans k6 (fun i hi e => by have e : i = w.heap.size := e; omega), _, .par hx hG hy, _, o5, cap5, rfl, ?_, hR.at1 k6 (by omega) (by omega), hE⟩
  exact hF.chg ((h56.mono (fun _ _ e => .inl e)).trans (S := fun q => q = rb ∨ q = w.heap.size) k6 (fun _ _ e => .inr e)) (fun b hb hb2 e => by unfold Ge at hb; rcases e with e | e <;> omega) (fun b hb => by unfold Ge at hb ⊢; omega)
end

set_option maxRecDepth 100000 in
set_option maxHeartbeats 8000000 in
theorem unary_any (L : List Tok) (hE : Ends L) (h5 : ∀ L', L'.length < L.length → Ends L' → LevC 205 5 L') (h0 : ∀ L', L'.length < L.length → Ends L' → LevC 71 0 L') : LevC 205 5 L := by
  intro w rb g o cap hR hrb
  obtain ⟨x, L2, rfl⟩ := hE.cons
  have hgl := hR.g_lt
  have hR1 := hR.nob ((Chg.refl Nob w).alloc (.cells #[.int .i64 0, .string ⟨#[]⟩, .slice none 0 0] 24))
  have hbx := hR1.box
  have c0 := cell_row hbx 0 (v := .slice (some ⟨g, o, none⟩) (x :: L2).length cap) rfl
  have c1 := (hR1.tok 0 x rfl).1
  have c2 := (hR1.tok 0 x rfl).2
  rw [Nat.zero_mul, Nat.add_zero] at c1 c2
  simp only [List.length_cons] at c0
  have hU : Hid (∃ W2, W2 = (w.alloc (.cells #[.int .i64 0, .string ⟨#[]⟩, .slice none 0 0] 24)).alloc (.cells #[.string ⟨x.1.toArray⟩, .int .i64 (x.2 : Int)] 121) ∧ Un rb g o cap x L2 w W2) :=
    ⟨_, rfl, hrb, hgl, ((Chg.refl _ _).alloc _).alloc _, by rw [World.size_alloc, World.size_alloc], ((Chg.refl Nob _).alloc _).at (heap_alloc_new w _) (fun e => e), by
      have := heap_alloc_new (w.alloc (.cells #[.int .i64 0, .string ⟨#[]⟩, .slice none 0 0] 24)) (.cells #[.string ⟨x.1.toArray⟩, .int .i64 (x.2 : Int)] 121)
      rwa [World.size_alloc] at this, hR.nob (((Chg.refl _ _).alloc _).alloc _)⟩
  have hl0 : (0 : Int) < (L2.length : Int) + 1 := by omega
  have H5 := Lib.hid h5
  have H0 := Lib.hid h0
  clear hbx hR1 hR h5 h0
  go_enter Tryz.func205, Tryz.ntmps205
  go_wp2_with fail
  obtain ⟨W2, hW2, hu⟩ := hU.out
  rw [← hW2]
  clear hW2 hU c0 c1 c2
  have HU := Lib.hid hu
  clear hu
  cases hx0 : (x.1 == [33]) with
  | true =>
    have hxe : x.1 = [33] := beq_iff_eq.1 hx0
    have hL2 : Ends L2 := hE.tail (by rw [hxe]; simp)
    have hL2n : L2 ≠ [] := by obtain ⟨y, r, e⟩ := hL2.cons; rw [e]; simp
    (with_reducible refine (is_yes [33] HU.out.r hxe (by simp) hL2n).mono ?_)
    rintro e w4 ⟨rfl, rfl⟩
    have hR4 := HU.out.r.next
    have hc4 := Rs.gone (w := W2) (rb := rb) (.slice (some ⟨g, o + 2, none⟩) L2.length (cap - 1))
    have hs4 : (W2.setCell ⟨rb, 0, none⟩ (.slice (some ⟨g, o + 2, none⟩) L2.length (cap - 1))).heap.size = W2.heap.size := by simp [World.setCell]
    have Hs4 := Lib.hid hs4
    have HL2 : Hid (L2 ≠ []) := hL2n
    clear hs4 hL2n
    have hcall := H5.out L2 (by simp) hL2 _ rb g _ _ hR4 (by have := Hs4.out; have := HU.out.s; omega)
    go_wp2_with fail
    generalize (W2.setCell ⟨rb, 0, none⟩ (.slice (some ⟨g, o + 2, none⟩) L2.length (cap - 1))) = W4 at *
    (with_reducible refine hcall.mono ?_)
    clear hcall hR4
    rintro e w5 ⟨hc5, out, hG, hend⟩
    cases out with
    | err y =>
      obtain rfl := hend
      go_wp2
      exact ⟨rfl, (HU.out.c.any.trans1 hc4).trans1 hc5, _, .pre_err (k := 4) (by rw [hxe]; rfl) hG, rfl⟩
    | ok u L3 =>
      obtain ⟨v, o', cap', rfl, hF, hR5, hE5⟩ := hend
      obtain ⟨ao, capv, rfl⟩ := hF.agg
      go_wp2_with fail
      (with_reducible refine (one_any _ _ _ _ _).mono ?_)
      rintro e w6 ⟨rfl, hc6, hb6⟩
      have hrl := HU.out.rbl
      have Hpost := Lib.hid (HU.out.signed (k := 4) (by rw [hxe]; rfl) hc4 hc5 hG hF hR5 hE5 hc6 hb6)
      have hb := hc6.at (hc5.at (hc4.at HU.out.b (fun e => by have e : w.heap.size = rb := e; omega)) (fun e => by have e : w.heap.size = rb := e; omega)) (fun e => e)
      obtain ⟨c0, c1, c2, f0, f1, f2⟩ := cells_three hb
      have Hb := Lib.hid hb
      clear hb hb6 hF hR5 hG
      go_wp2
      obtain ⟨e0, e1, e2, _⟩ := cells_three (block_three_all Hb.out (.int .i64 4) (.string ⟨#[]⟩) (.slice (some ⟨w5.heap.size + 2, 0, none⟩) 1 1))
      exact bodyPost_ret (v := .agg #[.int .i64 4, .string ⟨#[]⟩, .slice (some ⟨w5.heap.size + 2, 0, none⟩) 1 1]) (by simp [results, Tryz.results205, go_sem, e0, e1, e2]) rfl Hpost.out
  | false =>
    (with_reducible refine (is_no [33] HU.out.r hx0).mono ?_)
    rintro e w3 ⟨rfl, rfl⟩
    go_wp2_with fail
    cases hx1 : (x.1 == [88]) with
    | true =>
      have hxe : x.1 = [88] := beq_iff_eq.1 hx1
      have hL2 : Ends L2 := hE.tail (by rw [hxe]; simp)
      have hL2n : L2 ≠ [] := by obtain ⟨y, r, e⟩ := hL2.cons; rw [e]; simp
      (with_reducible refine (is_yes [88] HU.out.r hxe (by simp) hL2n).mono ?_)
      rintro e w4 ⟨rfl, rfl⟩
      have hR4 := HU.out.r.next
      have hc4 := Rs.gone (w := W2) (rb := rb) (.slice (some ⟨g, o + 2, none⟩) L2.length (cap - 1))
      have hs4 : (W2.setCell ⟨rb, 0, none⟩ (.slice (some ⟨g, o + 2, none⟩) L2.length (cap - 1))).heap.size = W2.heap.size := by simp [World.setCell]
      have Hs4 := Lib.hid hs4
      have HL2 : Hid (L2 ≠ []) := hL2n
      clear hs4 hL2n
      have hcall := H5.out L2 (by simp) hL2 _ rb g _ _ hR4 (by have := Hs4.out; have := HU.out.s; omega)
      go_wp2_with fail
      generalize (W2.setCell ⟨rb, 0, none⟩ (.slice (some ⟨g, o + 2, none⟩) L2.length (cap - 1))) = W4 at *
      (with_reducible refine hcall.mono ?_)
      clear hcall hR4
      rintro e w5 ⟨hc5, out, hG, hend⟩
      cases out with
      | err y =>
        obtain rfl := hend
        go_wp2
        exact ⟨rfl, (HU.out.c.any.trans1 hc4).trans1 hc5, _, .pre_err (k := 5) (by rw [hxe]; rfl) hG, rfl⟩
      | ok u L3 =>
        obtain ⟨v, o', cap', rfl, hF, hR5, hE5⟩ := hend
        obtain ⟨ao, capv, rfl⟩ := hF.agg
        go_wp2_with fail
        (with_reducible refine (one_any _ _ _ _ _).mono ?_)
        rintro e w6 ⟨rfl, hc6, hb6⟩
        have hrl := HU.out.rbl
        have Hpost := Lib.hid (HU.out.signed (k := 5) (by rw [hxe]; rfl) hc4 hc5 hG hF hR5 hE5 hc6 hb6)
        have hb := hc6.at (hc5.at (hc4.at HU.out.b (fun e => by have e : w.heap.size = rb := e; omega)) (fun e => by have e : w.heap.size = rb := e; omega)) (fun e => e)
        obtain ⟨c0, c1, c2, f0, f1, f2⟩ := cells_three hb
        have Hb := Lib.hid hb
        clear hb hb6 hF hR5 hG
        go_wp2
        obtain ⟨e0, e1, e2, _⟩ := cells_three (block_three_all Hb.out (.int .i64 5) (.string ⟨#[]⟩) (.slice (some ⟨w5.heap.size + 2, 0, none⟩) 1 1))
        exact bodyPost_ret (v := .agg #[.int .i64 5, .string ⟨#[]⟩, .slice (some ⟨w5.heap.size + 2, 0, none⟩) 1 1]) (by simp [results, Tryz.results205, go_sem, e0, e1, e2]) rfl Hpost.out
    | false =>
      (with_reducible refine (is_no [88] HU.out.r hx1).mono ?_)
      rintro e w3 ⟨rfl, rfl⟩
      go_wp2_with fail
      cases hx2 : (x.1 == [91, 93]) with
      | true =>
        have hxe : x.1 = [91, 93] := beq_iff_eq.1 hx2
        have hL2 : Ends L2 := hE.tail (by rw [hxe]; simp)
        have hL2n : L2 ≠ [] := by obtain ⟨y, r, e⟩ := hL2.cons; rw [e]; simp
        (with_reducible refine (is_yes [91, 93] HU.out.r hxe (by simp) hL2n).mono ?_)
        rintro e w4 ⟨rfl, rfl⟩
        have hR4 := HU.out.r.next
        have hc4 := Rs.gone (w := W2) (rb := rb) (.slice (some ⟨g, o + 2, none⟩) L2.length (cap - 1))
        have hs4 : (W2.setCell ⟨rb, 0, none⟩ (.slice (some ⟨g, o + 2, none⟩) L2.length (cap - 1))).heap.size = W2.heap.size := by simp [World.setCell]
        have Hs4 := Lib.hid hs4
        have HL2 : Hid (L2 ≠ []) := hL2n
        clear hs4 hL2n
        have hcall := H5.out L2 (by simp) hL2 _ rb g _ _ hR4 (by have := Hs4.out; have := HU.out.s; omega)
        go_wp2_with fail
        generalize (W2.setCell ⟨rb, 0, none⟩ (.slice (some ⟨g, o + 2, none⟩) L2.length (cap - 1))) = W4 at *
        (with_reducible refine hcall.mono ?_)
        clear hcall hR4
        rintro e w5 ⟨hc5, out, hG, hend⟩
        cases out with
        | err y =>
          obtain rfl := hend
          go_wp2
          exact ⟨rfl, (HU.out.c.any.trans1 hc4).trans1 hc5, _, .pre_err (k := 6) (by rw [hxe]; rfl) hG, rfl⟩
        | ok u L3 =>
          obtain ⟨v, o', cap', rfl, hF, hR5, hE5⟩ := hend
          obtain ⟨ao, capv, rfl⟩ := hF.agg
          go_wp2_with fail
          (with_reducible refine (one_any _ _ _ _ _).mono ?_)
          rintro e w6 ⟨rfl, hc6, hb6⟩
          have hrl := HU.out.rbl
          have Hpost := Lib.hid (HU.out.signed (k := 6) (by rw [hxe]; rfl) hc4 hc5 hG hF hR5 hE5 hc6 hb6)
          have hb := hc6.at (hc5.at (hc4.at HU.out.b (fun e => by have e : w.heap.size = rb := e; omega)) (fun e => by have e : w.heap.size = rb := e; omega)) (fun e => e)
          obtain ⟨c0, c1, c2, f0, f1, f2⟩ := cells_three hb
          have Hb := Lib.hid hb
          clear hb hb6 hF hR5 hG
          go_wp2
          obtain ⟨e0, e1, e2, _⟩ := cells_three (block_three_all Hb.out (.int .i64 6) (.string ⟨#[]⟩) (.slice (some ⟨w5.heap.size + 2, 0, none⟩) 1 1))
          exact bodyPost_ret (v := .agg #[.int .i64 6, .string ⟨#[]⟩, .slice (some ⟨w5.heap.size + 2, 0, none⟩) 1 1]) (by simp [results, Tryz.results205, go_sem, e0, e1, e2]) rfl Hpost.out
      | false =>
        (with_reducible refine (is_no [91, 93] HU.out.r hx2).mono ?_)
        rintro e w3 ⟨rfl, rfl⟩
        go_wp2_with fail
        cases hx3 : (x.1 == [60, 62]) with
        | true =>
          have hxe : x.1 = [60, 62] := beq_iff_eq.1 hx3
          have hL2 : Ends L2 := hE.tail (by rw [hxe]; simp)
          have hL2n : L2 ≠ [] := by obtain ⟨y, r, e⟩ := hL2.cons; rw [e]; simp
          (with_reducible refine (is_yes [60, 62] HU.out.r hxe (by simp) hL2n).mono ?_)
          rintro e w4 ⟨rfl, rfl⟩
          have hR4 := HU.out.r.next
          have hc4 := Rs.gone (w := W2) (rb := rb) (.slice (some ⟨g, o + 2, none⟩) L2.length (cap - 1))
          have hs4 : (W2.setCell ⟨rb, 0, none⟩ (.slice (some ⟨g, o + 2, none⟩) L2.length (cap - 1))).heap.size = W2.heap.size := by simp [World.setCell]
          have Hs4 := Lib.hid hs4
          have HL2 : Hid (L2 ≠ []) := hL2n
          clear hs4 hL2n
          have hcall := H5.out L2 (by simp) hL2 _ rb g _ _ hR4 (by have := Hs4.out; have := HU.out.s; omega)
          go_wp2_with fail
          generalize (W2.setCell ⟨rb, 0, none⟩ (.slice (some ⟨g, o + 2, none⟩) L2.length (cap - 1))) = W4 at *
          (with_reducible refine hcall.mono ?_)
          clear hcall hR4
          rintro e w5 ⟨hc5, out, hG, hend⟩
          cases out with
          | err y =>
            obtain rfl := hend
            go_wp2
            exact ⟨rfl, (HU.out.c.any.trans1 hc4).trans1 hc5, _, .pre_err (k := 7) (by rw [hxe]; rfl) hG, rfl⟩
          | ok u L3 =>
            obtain ⟨v, o', cap', rfl, hF, hR5, hE5⟩ := hend
            obtain ⟨ao, capv, rfl⟩ := hF.agg
            go_wp2_with fail
            (with_reducible refine (one_any _ _ _ _ _).mono ?_)
            rintro e w6 ⟨rfl, hc6, hb6⟩
            have hrl := HU.out.rbl
            have Hpost := Lib.hid (HU.out.signed (k := 7) (by rw [hxe]; rfl) hc4 hc5 hG hF hR5 hE5 hc6 hb6)
            have hb := hc6.at (hc5.at (hc4.at HU.out.b (fun e => by have e : w.heap.size = rb := e; omega)) (fun e => by have e : w.heap.size = rb := e; omega)) (fun e => e)
            obtain ⟨c0, c1, c2, f0, f1, f2⟩ := cells_three hb
            have Hb := Lib.hid hb
            clear hb hb6 hF hR5 hG
            go_wp2
            obtain ⟨e0, e1, e2, _⟩ := cells_three (block_three_all Hb.out (.int .i64 7) (.string ⟨#[]⟩) (.slice (some ⟨w5.heap.size + 2, 0, none⟩) 1 1))
            exact bodyPost_ret (v := .agg #[.int .i64 7, .string ⟨#[]⟩, .slice (some ⟨w5.heap.size + 2, 0, none⟩) 1 1]) (by simp [results, Tryz.results205, go_sem, e0, e1, e2]) rfl Hpost.out
        | false =>
          (with_reducible refine (is_no [60, 62] HU.out.r hx3).mono ?_)
          rintro e w3 ⟨rfl, rfl⟩
          go_wp2_with fail
          cases hx4 : (x.1 == [116, 114, 117, 101]) with
          | true =>
            have hxe : x.1 = [116, 114, 117, 101] := beq_iff_eq.1 hx4
            have hL2 : Ends L2 := hE.tail (by rw [hxe]; simp)
            have hL2n : L2 ≠ [] := by obtain ⟨y, r, e⟩ := hL2.cons; rw [e]; simp
            (with_reducible refine (is_yes [116, 114, 117, 101] HU.out.r hxe (by simp) hL2n).mono ?_)
            rintro e w4 ⟨rfl, rfl⟩
            have hR4 := HU.out.r.next
            have hc4 := Rs.gone (w := W2) (rb := rb) (.slice (some ⟨g, o + 2, none⟩) L2.length (cap - 1))
            have hs4 : (W2.setCell ⟨rb, 0, none⟩ (.slice (some ⟨g, o + 2, none⟩) L2.length (cap - 1))).heap.size = W2.heap.size := by simp [World.setCell]
            have Hs4 := Lib.hid hs4
            have HL2 : Hid (L2 ≠ []) := hL2n
            clear hs4 hL2n
            have hrl := HU.out.rbl
            have hb := hc4.at HU.out.b (fun e => by have e : w.heap.size = rb := e; omega)
            obtain ⟨c0, c1, c2, f0, f1, f2⟩ := cells_three hb
            have Hb := Lib.hid hb
            have Hpost := Lib.hid (HU.out.leaf (k := 1) (nm := []) (by rw [hxe]; rfl) (by rw [hxe]; rfl) hc4 hR4 hL2)
            clear hb
            generalize (W2.setCell ⟨rb, 0, none⟩ (.slice (some ⟨g, o + 2, none⟩) L2.length (cap - 1))) = W4 at *
            go_wp2
            obtain ⟨e0, e1, e2, _⟩ := cells_three (block_three_all Hb.out (.int .i64 1) (.string ⟨#[]⟩) (.slice none 0 0))
            exact bodyPost_ret (v := .agg #[.int .i64 1, .string ⟨#[]⟩, .slice none 0 0]) (by simp [results, Tryz.results205, go_sem, e0, e1, e2]) rfl Hpost.out
          | false =>
            (with_reducible refine (is_no [116, 114, 117, 101] HU.out.r hx4).mono ?_)
            rintro e w3 ⟨rfl, rfl⟩
            go_wp2_with fail
            cases hx5 : (x.1 == [102, 97, 108, 115, 101]) with
            | true =>
              have hxe : x.1 = [102, 97, 108, 115, 101] := beq_iff_eq.1 hx5
              have hL2 : Ends L2 := hE.tail (by rw [hxe]; simp)
              have hL2n : L2 ≠ [] := by obtain ⟨y, r, e⟩ := hL2.cons; rw [e]; simp
              (with_reducible refine (is_yes [102, 97, 108, 115, 101] HU.out.r hxe (by simp) hL2n).mono ?_)
              rintro e w4 ⟨rfl, rfl⟩
              have hR4 := HU.out.r.next
              have hc4 := Rs.gone (w := W2) (rb := rb) (.slice (some ⟨g, o + 2, none⟩) L2.length (cap - 1))
              have hs4 : (W2.setCell ⟨rb, 0, none⟩ (.slice (some ⟨g, o + 2, none⟩) L2.length (cap - 1))).heap.size = W2.heap.size := by simp [World.setCell]
              have Hs4 := Lib.hid hs4
              have HL2 : Hid (L2 ≠ []) := hL2n
              clear hs4 hL2n
              have hrl := HU.out.rbl
              have hb := hc4.at HU.out.b (fun e => by have e : w.heap.size = rb := e; omega)
              obtain ⟨c0, c1, c2, f0, f1, f2⟩ := cells_three hb
              have Hb := Lib.hid hb
              have Hpost := Lib.hid (HU.out.leaf (k := 2) (nm := []) (by rw [hxe]; rfl) (by rw [hxe]; rfl) hc4 hR4 hL2)
              clear hb
              generalize (W2.setCell ⟨rb, 0, none⟩ (.slice (some ⟨g, o + 2, none⟩) L2.length (cap - 1))) = W4 at *
              go_wp2
              obtain ⟨e0, e1, e2, _⟩ := cells_three (block_three_all Hb.out (.int .i64 2) (.string ⟨#[]⟩) (.slice none 0 0))
              exact bodyPost_ret (v := .agg #[.int .i64 2, .string ⟨#[]⟩, .slice none 0 0]) (by simp [results, Tryz.results205, go_sem, e0, e1, e2]) rfl Hpost.out
            | false =>
              (with_reducible refine (is_no [102, 97, 108, 115, 101] HU.out.r hx5).mono ?_)
              rintro e w3 ⟨rfl, rfl⟩
              go_wp2_with fail
              cases hx6 : (x.1 == [40]) with
              | true =>
                have hxe : x.1 = [40] := beq_iff_eq.1 hx6
                have hL2 : Ends L2 := hE.tail (by rw [hxe]; simp)
                have hL2n : L2 ≠ [] := by obtain ⟨y, r, e⟩ := hL2.cons; rw [e]; simp
                (with_reducible refine (is_yes [40] HU.out.r hxe (by simp) hL2n).mono ?_)
                rintro e w4 ⟨rfl, rfl⟩
                have hR4 := HU.out.r.next
                have hc4 := Rs.gone (w := W2) (rb := rb) (.slice (some ⟨g, o + 2, none⟩) L2.length (cap - 1))
                have hs4 : (W2.setCell ⟨rb, 0, none⟩ (.slice (some ⟨g, o + 2, none⟩) L2.length (cap - 1))).heap.size = W2.heap.size := by simp [World.setCell]
                have Hs4 := Lib.hid hs4
                have HL2 : Hid (L2 ≠ []) := hL2n
                clear hs4 hL2n
                have hcall := H0.out L2 (by simp) hL2 _ rb g _ _ hR4 (by have := Hs4.out; have := HU.out.s; omega)
                go_wp2_with fail
                generalize (W2.setCell ⟨rb, 0, none⟩ (.slice (some ⟨g, o + 2, none⟩) L2.length (cap - 1))) = W4 at *
                (with_reducible refine hcall.mono ?_)
                clear hcall hR4
                rintro e w5 ⟨hc5, out, hG, hend⟩
                cases out with
                | err y =>
                  obtain rfl := hend
                  go_wp2
                  exact ⟨rfl, (HU.out.c.any.trans1 hc4).trans1 hc5, _, .par_err hxe hG, rfl⟩
                | ok t L3 =>
                  obtain ⟨v, o', cap', rfl, hF, hR5, hE5⟩ := hend
                  obtain ⟨y, L4, rfl⟩ := hE5.cons
                  obtain ⟨ao, capv, rfl⟩ := hF.agg
                  have hrl := HU.out.rbl
                  have hb5 := (hc5.at (hc4.at HU.out.b (fun e => by have e : w.heap.size = rb := e; omega)) (fun e => by have e : w.heap.size = rb := e; omega))
                  have h56 : Chg Nob w5 (w5.alloc (.cells #[.int .i64 t.kind, .string ⟨t.name.toArray⟩, .slice ao t.kids.length capv] 24)) := (Chg.refl _ _).alloc _
                  have hb6 := h56.at hb5 (fun e => e)
                  have ht6 := heap_alloc_new w5 (.cells #[.int .i64 t.kind, .string ⟨t.name.toArray⟩, .slice ao t.kids.length capv] 24)
                  have hsz5 : w.heap.size < w5.heap.size := (Array.getElem?_eq_some_iff.1 hb5).1
                  have Hb6 := Lib.hid hb6
                  have Ht6 := Lib.hid ht6
                  clear hb5 hb6 ht6
                  go_wp2_with fail
                  generalize w5.alloc (.cells #[.int .i64 t.kind, .string ⟨t.name.toArray⟩, .slice ao t.kids.length capv] 24) = W6 at *
                  cases hy : (y.1 == [41]) with
                  | false =>
                    (with_reducible refine (is_no [41] (hR5.nob h56) hy).mono ?_)
                    rintro e w7 ⟨rfl, rfl⟩
                    go_wp2_with fail
                    (with_reducible refine (wrong_any (hR5.nob h56)).mono ?_)
                    rintro e w7 ⟨rfl, rfl⟩
                    go_wp2
                    exact ⟨rfl, ((HU.out.c.any.trans1 hc4).trans1 hc5).trans1 h56.any, _, .par_not hxe hG (beq_eq_false_iff_ne.1 hy), rfl⟩
                  | true =>
                    have hye : y.1 = [41] := beq_iff_eq.1 hy
                    have hL4 : Ends L4 := hE5.tail (by rw [hye]; simp)
                    have hL4n : L4 ≠ [] := by obtain ⟨z, r, e⟩ := hL4.cons; rw [e]; simp
                    (with_reducible refine (is_yes [41] (hR5.nob h56) hye (by simp) hL4n).mono ?_)
                    rintro e w7 ⟨rfl, rfl⟩
                    have hR7 := (hR5.nob h56).next
                    have hc7 := Rs.gone (w := W6) (rb := rb) (.slice (some ⟨g, o' + 2, none⟩) L4.length (cap' - 1))
                    have Hpost := Lib.hid (HU.out.par hxe hc4 hc5 hG hye hF (h56.any.trans1 hc7) hR7 hL4)
                    have hb7 := hc7.at Hb6.out (fun e => by have e : w.heap.size = rb := e; omega)
                    obtain ⟨c0, c1, c2, f0, f1, f2⟩ := cells_three hb7
                    obtain ⟨d0, d1, d2, _⟩ := cells_three (hc7.at Ht6.out (fun e => by have e : w5.heap.size = rb := e; omega))
                    have Hb7 := Lib.hid hb7
                    clear hb7 hR7 hR5 hF hG hL4n
                    generalize (W6.setCell ⟨rb, 0, none⟩ (.slice (some ⟨g, o' + 2, none⟩) L4.length (cap' - 1))) = W7 at *
                    go_wp2
                    obtain ⟨e0, e1, e2, _⟩ := cells_three (block_three_all Hb7.out (.int .i64 t.kind) (.string ⟨t.name.toArray⟩) (.slice ao t.kids.length capv))
                    exact bodyPost_ret (v := .agg #[.int .i64 t.kind, .string ⟨t.name.toArray⟩, .slice ao t.kids.length capv]) (by simp [results, Tryz.results205, go_sem, e0, e1, e2]) rfl Hpost.out
              | false =>
                (with_reducible refine (is_no [40] HU.out.r hx6).mono ?_)
                rintro e w3 ⟨rfl, rfl⟩
                have hpre : preOf x.1 = none := by
                  have e0 := beq_eq_false_iff_ne.1 hx0
                  have e1 := beq_eq_false_iff_ne.1 hx1
                  have e2 := beq_eq_false_iff_ne.1 hx2
                  have e3 := beq_eq_false_iff_ne.1 hx3
                  unfold preOf
                  rw [if_neg e0, if_neg e1, if_neg e2, if_neg e3]
                have hatom : atomOf x.1 = if nameB x.1 then some (.node 3 x.1 []) else none := by
                  have e4 := beq_eq_false_iff_ne.1 hx4
                  have e5 := beq_eq_false_iff_ne.1 hx5
                  unfold atomOf
                  rw [if_neg e4, if_neg e5]
                have Hpre := Lib.hid hpre
                have Hatom := Lib.hid hatom
                obtain ⟨y0, y1, _⟩ := cell_two HU.out.b2
                clear hx0 hx1 hx2 hx3 hx4 hx5 hpre hatom
                go_wp2_with fail
                (with_reducible refine (isname_any x.1 _).mono ?_)
                rintro e w4 ⟨rfl, hc4⟩
                have hR4 := HU.out.r.nob hc4
                clear y0 y1
                cases hnm : nameB x.1 with
                | false =>
                  go_wp2_with fail
                  (with_reducible refine (wrong_any hR4).mono ?_)
                  rintro e w7 ⟨rfl, rfl⟩
                  go_wp2
                  exact ⟨rfl, (HU.out.c.trans1 hc4).any, _, .bad Hpre.out (by rw [Hatom.out, hnm]; rfl) (beq_eq_false_iff_ne.1 hx6), rfl⟩
                | true =>
                  have hxn : x.1 ≠ [] := by intro e; rw [e] at hnm; cases hnm
                  have hL2 : Ends L2 := hE.tail hxn
                  have hL2p : 0 < L2.length := by obtain ⟨z, r, e⟩ := hL2.cons; rw [e]; simp
                  have hbx := hR4.box
                  have c0 := cell_row hbx 0 (v := .slice (some ⟨g, o, none⟩) (x :: L2).length cap) rfl
                  have f0 : w4.frozen? ⟨rb, 0, none⟩ = false := by simp [World.frozen?, hbx]
                  have hle := hR4.le
                  simp only [List.length_cons] at c0 hle
                  have h0 : (0 : Int) < (L2.length : Int) + 1 := by omega
                  have h1 : (1 : Int) ≤ (L2.length : Int) + 1 := by omega
                  have h2 : (L2.length : Int) + 1 ≤ (cap : Int) := by omega
                  have h3 := hR4.big
                  have h4 : (1 : Int) < (cap : Int) := by omega
                  have hR5 := hR4.next
                  have hc5 := Rs.gone (w := w4) (rb := rb) (.slice (some ⟨g, o + 2, none⟩) L2.length (cap - 1))
                  have hrl := HU.out.rbl
                  have hb := hc5.at (hc4.at HU.out.b (fun e => e)) (fun e => by have e : w.heap.size = rb := e; omega)
                  have hb2 := hc5.at (hc4.at HU.out.b2 (fun e => e)) (fun e => by have e : w.heap.size + 1 = rb := e; omega)
                  obtain ⟨y0, y1, _⟩ := cell_two hb2
                  obtain ⟨z0, z1, z2, g0, g1, g2⟩ := cells_three hb
                  have Hb := Lib.hid hb
                  have Hpost := Lib.hid (HU.out.leaf (k := 3) (nm := x.1) Hpre.out (by rw [Hatom.out, hnm]; rfl) (hc4.any.trans1 hc5) hR5 hL2)
                  clear hb hb2 hbx hR4 hR5 hc5
                  go_wp2
                  obtain ⟨e0, e1, e2, _⟩ := cells_three (block_three_all Hb.out (.int .i64 3) (.string ⟨x.1.toArray⟩) (.slice none 0 0))
                  exact bodyPost_ret (v := .agg #[.int .i64 3, .string ⟨x.1.toArray⟩, .slice none 0 0]) (by simp [results, Tryz.results205, go_sem, e0, e1, e2]) rfl Hpost.out
end Go.Proofs.YtkgfdgfhpdhhaaaGreat
