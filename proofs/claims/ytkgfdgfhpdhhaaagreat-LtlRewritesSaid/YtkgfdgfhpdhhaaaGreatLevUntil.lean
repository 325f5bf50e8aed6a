/- The reader's level of U, V and W. Conditions: the words lie in the world. -/
import Derived.Test.YtkgfdgfhpdhhaaaGreatLev
namespace Go.Proofs.YtkgfdgfhpdhhaaaGreat
open Go.ChangeShapes Go.WideShapes Go.RowKit

set_option maxRecDepth 100000 in
set_option maxHeartbeats 4000000 in
theorem until_any (L : List Tok) (hE : Ends L) (h1 : LevC 205 5 L) (h0 : ∀ L', L'.length < L.length → Ends L' → LevC 202 4 L') : LevC 202 4 L := by
  intro w rb g o cap hR hrb
  have hcW : Chg Nob w (w.alloc (.cells #[.int .i64 0, .string ⟨#[]⟩, .slice none 0 0] 24)) := (Chg.refl _ _).alloc _
  have hcall := h1 _ rb g o cap (hR.nob hcW) (by rw [World.size_alloc]; omega)
  have hres := heap_alloc_new w (.cells #[.int .i64 0, .string ⟨#[]⟩, .slice none 0 0] 24)
  have Hres := Lib.hid hres
  have HW1s := Lib.hid (World.size_alloc w (.cells #[.int .i64 0, .string ⟨#[]⟩, .slice none 0 0] 24))
  have H0 := Lib.hid h0
  have hgl : g < w.heap.size := by
    obtain ⟨y, r, e⟩ := hE.cons
    subst e
    exact hR.g_lt
  clear h1 h0 hR hres
  go_enter Tryz.func202, Tryz.ntmps202
  go_wp2_with fail
  generalize w.alloc (.cells #[.int .i64 0, .string ⟨#[]⟩, .slice none 0 0] 24) = W1 at *
  (with_reducible refine hcall.mono ?_)
  clear hcall
  rintro e w2 ⟨hc2, out, hG, hend⟩
  rw [HW1s.out] at hend
  cases out with
  | err x =>
    obtain rfl := hend
    go_wp2
    exact ⟨rfl, (hcW.any).trans1 hc2, _, .down_err (by omega) hG, rfl⟩
  | ok t L' =>
    obtain ⟨v, o', cap', rfl, hF, hR2, hE2⟩ := hend
    obtain ⟨x, L2, rfl⟩ := hE2.cons
    obtain ⟨ao, capv, rfl⟩ := hF.agg
    have hL : Hid (∃ W3, W3 = w2.alloc (.cells #[.int .i64 t.kind, .string ⟨t.name.toArray⟩, .slice ao t.kids.length capv] 24) ∧ Lft rb g L t x L2 o' cap' (.int .i64 t.kind) (.string ⟨t.name.toArray⟩) (.slice ao t.kids.length capv) w W1 w2 W3) :=
      ⟨_, rfl, hrb, hgl, hcW, HW1s.out, hc2, hF, hR2, hE2, (Chg.refl _ _).alloc _, World.size_alloc _ _, ⟨_, _, _, ((Chg.refl Nob w2).alloc _).at (hc2.at Hres.out (fun e => by have e : w.heap.size = rb := e; omega)) (fun e => e)⟩, heap_alloc_new w2 _⟩
    clear hc2 hF hR2 Hres hcW
    go_wp2_with fail
    obtain ⟨W3, hW3, hl⟩ := hL.out
    rw [← hW3]
    clear hW3 hL
    have HL := Lib.hid hl
    clear hl
    cases hx12 : (x.1 == [85]) with
    | true =>
      have hxe : x.1 = [85] := beq_iff_eq.1 hx12
      have hL2 : Ends L2 := hE2.tail (by rw [hxe]; simp)
      have hL2n : L2 ≠ [] := by obtain ⟨y, r, e⟩ := hL2.cons; rw [e]; simp
      have hlen : L2.length < L.length := by have := G_lev_size hG; rw [List.length_cons] at this; have := sizeT_pos t; omega
      (with_reducible refine (is_yes [85] (HL.out.r.nob HL.out.c3) hxe (by simp) hL2n).mono ?_)
      rintro e w4 ⟨rfl, rfl⟩
      have hR4 := (HL.out.r.nob HL.out.c3).next
      have hc4 := Rs.gone (w := W3) (rb := rb) (.slice (some ⟨g, o' + 2, none⟩) L2.length (cap' - 1))
      have hs4 : (W3.setCell ⟨rb, 0, none⟩ (.slice (some ⟨g, o' + 2, none⟩) L2.length (cap' - 1))).heap.size = W3.heap.size := by simp [World.setCell]
      have Hs4 := Lib.hid hs4
      clear hs4
      go_wp2_with fail
      generalize (W3.setCell ⟨rb, 0, none⟩ (.slice (some ⟨g, o' + 2, none⟩) L2.length (cap' - 1))) = W4 at *
      have Hcall : Hid (∀ w5, Chg Nob W4 w5 → Calls Tryz.prog 202 #[.pointer (some ⟨rb, 0, none⟩)] w5 (LevPost rb g 4 L2 w5)) := fun w5 h5 => H0.out L2 hlen hL2 w5 rb g _ _ (hR4.nob h5) (by have := h5.size; have := Hs4.out; have := HL.out.s3; have := HL.out.s2; omega)
      have ht4 := hc4.at HL.out.t3 (fun e => by have e : w2.heap.size = rb := e; have := HL.out.s2; omega)
      have Ht4 := Lib.hid ht4
      obtain ⟨d0, d1, d2, _⟩ := cells_three ht4
      clear hR4 ht4 hlen hL2 hL2n
      have Herr : Hid (∀ (w4 w5 : World) (y : Int × Nat), Chg Nob W4 w4 → Chg (At1 rb) w4 w5 → G (.lev 4) L2 (.err y) → LevPost rb g 4 L w (.panicked (stopE y.1 y.2)) w5) := fun w4 w5 y h1 h2 h3 =>
        ⟨(((HL.out.cW.any).trans1 HL.out.c2).trans1 (HL.out.c3.any)).trans1 ((hc4.trans1 h1.any).trans1 h2), _, .op_err (by omega) rfl hG (by rw [hxe]; rfl) h3, rfl⟩
      refine wp_region_any (by kernel_rfl) ?_
      refine wpAny_take (i := 1) (v := .pointer (some ⟨rb, 0, none⟩)) rfl (by kernel_rfl) (by kernel_rfl) (by kernel_rfl) (fun _ _ _ h => h) (Or.inl ⟨by rfl, fun _ => rfl⟩) ?_
      simp only [Act.put]
      refine wpAny_ready (rs := [0, 2]) (by kernel_rfl) (by simp) ?_
      refine AllReady.cons rfl (fun K hK => ?_) (AllReady.cons rfl (fun K hK => ?_) AllReady.nil)
      · go_simp
        refine hK _ _ ?_
        clear hK K
        refine wpAny_ready (rs := [2]) (by kernel_rfl) (by simp) ?_
        refine AllReady.cons rfl (fun K hK => ?_) AllReady.nil
        go_simp
        refine (Hcall.out _ (by repeat (first | exact Chg.refl _ _ | apply Chg.drew))).mono ?_
        rintro e w5 ⟨hc5, out5, hG5, hend5⟩
        cases out5 with
        | err y =>
          obtain rfl := hend5
          exact ⟨rfl, Herr.out _ _ y (Chg.refl _ _).drew hc5 hG5⟩
        | ok u L3 =>
          obtain ⟨v5, o5, cap5, rfl, hF5, hR5, hE5⟩ := hend5
          obtain ⟨a5, capv5, rfl⟩ := hF5.agg
          refine hK _ _ ?_
          clear hK K d0 d1 d2
          refine wpAny_ready (rs := [3]) (by kernel_rfl) (by simp) ?_
          refine AllReady.cons rfl (fun K hK => ?_) AllReady.nil
          go_simp
          refine (two_any _ _ _ _ _ _ _ _).mono ?_
          rintro e w6 ⟨rfl, hc6, hb6⟩
          refine hK _ _ ?_
          clear hK K
          refine wpAny_ready (rs := [4]) (by kernel_rfl) (by simp) ?_
          refine AllReady.cons rfl (fun K hK => ?_) AllReady.nil
          have hsz := HL.out.s2
          have hrl := HL.out.rbl
          have ht6 := hc6.at (hc5.at (show W4.drew.heap[w2.heap.size]? = _ from Ht4.out) (fun e => by have e : w2.heap.size = rb := e; omega)) (fun e => e)
          obtain ⟨z0, z1, z2, hb3⟩ := HL.out.b3
          have hres6 := hc6.at (hc5.at (show W4.drew.heap[w.heap.size]? = _ from hc4.at hb3 (fun e => by have e : w.heap.size = rb := e; omega)) (fun e => by have e : w.heap.size = rb := e; omega)) (fun e => e)
          have hpost : ∀ w7, Chg (At1 w2.heap.size) w6 w7 → LevPost rb g 4 L w (.returned (.agg #[.int .i64 12, .string ⟨#[]⟩, .slice (some ⟨w5.heap.size + 3, 0, none⟩) 2 2])) (((w7.setCell ⟨w.heap.size, 0, none⟩ (.int .i64 12)).setCell ⟨w.heap.size, 1, none⟩ (.string ⟨#[]⟩)).setCell ⟨w.heap.size, 2, none⟩ (.slice (some ⟨w5.heap.size + 3, 0, none⟩) 2 2)) :=
            fun w7 h67 => HL.out.both (.op_ok (by omega) rfl hG (by rw [hxe]; rfl) hG5) (w4 := W4.drew) hc4.drew hc5 hF5 hR5 hE5 hc6 hb6 h67
          have Hpost := Lib.hid hpost
          clear hpost hb6 hb3 hF5 hR5
          obtain ⟨c0, c1, c2, f0, f1, f2⟩ := cells_three hres6
          have Hres6 := Lib.hid hres6
          clear hres6 ht6
          go_simp
          refine hK _ _ ?_
          clear hK K c0 c1 c2 f0 f1 f2
          refine wpAny_done (by kernel_rfl) ?_ _
          obtain ⟨e0, e1, e2, _⟩ := cells_three (block_three_all Hres6.out (.int .i64 12) (.string ⟨#[]⟩) (.slice (some ⟨w5.heap.size + 3, 0, none⟩) 2 2))
          go_simp
          try go_wp2
          exact bodyPost_ret (v := .agg #[.int .i64 12, .string ⟨#[]⟩, .slice (some ⟨w5.heap.size + 3, 0, none⟩) 2 2]) (by simp [results, Tryz.results202, go_sem, e0, e1, e2]) rfl (Hpost.out _ (Chg.refl _ _))
      · go_simp
        refine (Hcall.out _ (by repeat (first | exact Chg.refl _ _ | apply Chg.drew))).mono ?_
        rintro e w5 ⟨hc5, out5, hG5, hend5⟩
        cases out5 with
        | err y =>
          obtain rfl := hend5
          exact ⟨rfl, Herr.out _ _ y (Chg.refl _ _).drew hc5 hG5⟩
        | ok u L3 =>
          obtain ⟨v5, o5, cap5, rfl, hF5, hR5, hE5⟩ := hend5
          obtain ⟨a5, capv5, rfl⟩ := hF5.agg
          refine hK _ _ ?_
          clear hK K d0 d1 d2
          obtain ⟨d0, d1, d2, _⟩ := cells_three (hc5.at (show W4.drew.heap[w2.heap.size]? = _ from Ht4.out) (fun e => by have e : w2.heap.size = rb := e; have := HL.out.s2; omega))
          refine wpAny_ready (rs := [0]) (by kernel_rfl) (by simp) ?_
          refine AllReady.cons rfl (fun K hK => ?_) AllReady.nil
          go_simp
          refine hK _ _ ?_
          clear hK K d0 d1 d2
          refine wpAny_ready (rs := [3]) (by kernel_rfl) (by simp) ?_
          refine AllReady.cons rfl (fun K hK => ?_) AllReady.nil
          go_simp
          refine (two_any _ _ _ _ _ _ _ _).mono ?_
          rintro e w6 ⟨rfl, hc6, hb6⟩
          refine hK _ _ ?_
          clear hK K
          refine wpAny_ready (rs := [4]) (by kernel_rfl) (by simp) ?_
          refine AllReady.cons rfl (fun K hK => ?_) AllReady.nil
          have hsz := HL.out.s2
          have hrl := HL.out.rbl
          have ht6 := hc6.at (hc5.at (show W4.drew.heap[w2.heap.size]? = _ from Ht4.out) (fun e => by have e : w2.heap.size = rb := e; omega)) (fun e => e)
          obtain ⟨z0, z1, z2, hb3⟩ := HL.out.b3
          have hres6 := hc6.at (hc5.at (show W4.drew.heap[w.heap.size]? = _ from hc4.at hb3 (fun e => by have e : w.heap.size = rb := e; omega)) (fun e => by have e : w.heap.size = rb := e; omega)) (fun e => e)
          have hpost : ∀ w7, Chg (At1 w2.heap.size) w6 w7 → LevPost rb g 4 L w (.returned (.agg #[.int .i64 12, .string ⟨#[]⟩, .slice (some ⟨w5.heap.size + 3, 0, none⟩) 2 2])) (((w7.setCell ⟨w.heap.size, 0, none⟩ (.int .i64 12)).setCell ⟨w.heap.size, 1, none⟩ (.string ⟨#[]⟩)).setCell ⟨w.heap.size, 2, none⟩ (.slice (some ⟨w5.heap.size + 3, 0, none⟩) 2 2)) :=
            fun w7 h67 => HL.out.both (.op_ok (by omega) rfl hG (by rw [hxe]; rfl) hG5) (w4 := W4.drew) hc4.drew hc5 hF5 hR5 hE5 hc6 hb6 h67
          have Hpost := Lib.hid hpost
          clear hpost hb6 hb3 hF5 hR5
          obtain ⟨c0, c1, c2, f0, f1, f2⟩ := cells_three hres6
          have Hres6 := Lib.hid hres6
          clear hres6 ht6
          go_simp
          refine hK _ _ ?_
          clear hK K c0 c1 c2 f0 f1 f2
          refine wpAny_done (by kernel_rfl) ?_ _
          obtain ⟨e0, e1, e2, _⟩ := cells_three (block_three_all Hres6.out (.int .i64 12) (.string ⟨#[]⟩) (.slice (some ⟨w5.heap.size + 3, 0, none⟩) 2 2))
          go_simp
          try go_wp2
          exact bodyPost_ret (v := .agg #[.int .i64 12, .string ⟨#[]⟩, .slice (some ⟨w5.heap.size + 3, 0, none⟩) 2 2]) (by simp [results, Tryz.results202, go_sem, e0, e1, e2]) rfl (Hpost.out _ (Chg.refl _ _))
    | false =>
      (with_reducible refine (is_no [85] (HL.out.r.nob HL.out.c3) hx12).mono ?_)
      rintro e w3 ⟨rfl, rfl⟩
      go_wp2_with fail
      cases hx13 : (x.1 == [86]) with
      | true =>
        have hxe : x.1 = [86] := beq_iff_eq.1 hx13
        have hL2 : Ends L2 := hE2.tail (by rw [hxe]; simp)
        have hL2n : L2 ≠ [] := by obtain ⟨y, r, e⟩ := hL2.cons; rw [e]; simp
        have hlen : L2.length < L.length := by have := G_lev_size hG; rw [List.length_cons] at this; have := sizeT_pos t; omega
        (with_reducible refine (is_yes [86] (HL.out.r.nob HL.out.c3) hxe (by simp) hL2n).mono ?_)
        rintro e w4 ⟨rfl, rfl⟩
        have hR4 := (HL.out.r.nob HL.out.c3).next
        have hc4 := Rs.gone (w := W3) (rb := rb) (.slice (some ⟨g, o' + 2, none⟩) L2.length (cap' - 1))
        have hs4 : (W3.setCell ⟨rb, 0, none⟩ (.slice (some ⟨g, o' + 2, none⟩) L2.length (cap' - 1))).heap.size = W3.heap.size := by simp [World.setCell]
        have Hs4 := Lib.hid hs4
        clear hs4
        go_wp2_with fail
        generalize (W3.setCell ⟨rb, 0, none⟩ (.slice (some ⟨g, o' + 2, none⟩) L2.length (cap' - 1))) = W4 at *
        have Hcall : Hid (∀ w5, Chg Nob W4 w5 → Calls Tryz.prog 202 #[.pointer (some ⟨rb, 0, none⟩)] w5 (LevPost rb g 4 L2 w5)) := fun w5 h5 => H0.out L2 hlen hL2 w5 rb g _ _ (hR4.nob h5) (by have := h5.size; have := Hs4.out; have := HL.out.s3; have := HL.out.s2; omega)
        have ht4 := hc4.at HL.out.t3 (fun e => by have e : w2.heap.size = rb := e; have := HL.out.s2; omega)
        have Ht4 := Lib.hid ht4
        obtain ⟨d0, d1, d2, _⟩ := cells_three ht4
        clear hR4 ht4 hlen hL2 hL2n
        have Herr : Hid (∀ (w4 w5 : World) (y : Int × Nat), Chg Nob W4 w4 → Chg (At1 rb) w4 w5 → G (.lev 4) L2 (.err y) → LevPost rb g 4 L w (.panicked (stopE y.1 y.2)) w5) := fun w4 w5 y h1 h2 h3 =>
          ⟨(((HL.out.cW.any).trans1 HL.out.c2).trans1 (HL.out.c3.any)).trans1 ((hc4.trans1 h1.any).trans1 h2), _, .op_err (by omega) rfl hG (by rw [hxe]; rfl) h3, rfl⟩
        refine wp_region_any (by kernel_rfl) ?_
        refine wpAny_take (i := 1) (v := .pointer (some ⟨rb, 0, none⟩)) rfl (by kernel_rfl) (by kernel_rfl) (by kernel_rfl) (fun _ _ _ h => h) (Or.inl ⟨by rfl, fun _ => rfl⟩) ?_
        simp only [Act.put]
        refine wpAny_ready (rs := [0, 2]) (by kernel_rfl) (by simp) ?_
        refine AllReady.cons rfl (fun K hK => ?_) (AllReady.cons rfl (fun K hK => ?_) AllReady.nil)
        · go_simp
          refine hK _ _ ?_
          clear hK K
          refine wpAny_ready (rs := [2]) (by kernel_rfl) (by simp) ?_
          refine AllReady.cons rfl (fun K hK => ?_) AllReady.nil
          go_simp
          refine (Hcall.out _ (by repeat (first | exact Chg.refl _ _ | apply Chg.drew))).mono ?_
          rintro e w5 ⟨hc5, out5, hG5, hend5⟩
          cases out5 with
          | err y =>
            obtain rfl := hend5
            exact ⟨rfl, Herr.out _ _ y (Chg.refl _ _).drew hc5 hG5⟩
          | ok u L3 =>
            obtain ⟨v5, o5, cap5, rfl, hF5, hR5, hE5⟩ := hend5
            obtain ⟨a5, capv5, rfl⟩ := hF5.agg
            refine hK _ _ ?_
            clear hK K d0 d1 d2
            refine wpAny_ready (rs := [3]) (by kernel_rfl) (by simp) ?_
            refine AllReady.cons rfl (fun K hK => ?_) AllReady.nil
            go_simp
            refine (two_any _ _ _ _ _ _ _ _).mono ?_
            rintro e w6 ⟨rfl, hc6, hb6⟩
            refine hK _ _ ?_
            clear hK K
            refine wpAny_ready (rs := [4]) (by kernel_rfl) (by simp) ?_
            refine AllReady.cons rfl (fun K hK => ?_) AllReady.nil
            have hsz := HL.out.s2
            have hrl := HL.out.rbl
            have ht6 := hc6.at (hc5.at (show W4.drew.heap[w2.heap.size]? = _ from Ht4.out) (fun e => by have e : w2.heap.size = rb := e; omega)) (fun e => e)
            obtain ⟨z0, z1, z2, hb3⟩ := HL.out.b3
            have hres6 := hc6.at (hc5.at (show W4.drew.heap[w.heap.size]? = _ from hc4.at hb3 (fun e => by have e : w.heap.size = rb := e; omega)) (fun e => by have e : w.heap.size = rb := e; omega)) (fun e => e)
            have hpost : ∀ w7, Chg (At1 w2.heap.size) w6 w7 → LevPost rb g 4 L w (.returned (.agg #[.int .i64 13, .string ⟨#[]⟩, .slice (some ⟨w5.heap.size + 3, 0, none⟩) 2 2])) (((w7.setCell ⟨w.heap.size, 0, none⟩ (.int .i64 13)).setCell ⟨w.heap.size, 1, none⟩ (.string ⟨#[]⟩)).setCell ⟨w.heap.size, 2, none⟩ (.slice (some ⟨w5.heap.size + 3, 0, none⟩) 2 2)) :=
              fun w7 h67 => HL.out.both (.op_ok (by omega) rfl hG (by rw [hxe]; rfl) hG5) (w4 := W4.drew) hc4.drew hc5 hF5 hR5 hE5 hc6 hb6 h67
            have Hpost := Lib.hid hpost
            clear hpost hb6 hb3 hF5 hR5
            obtain ⟨c0, c1, c2, f0, f1, f2⟩ := cells_three hres6
            have Hres6 := Lib.hid hres6
            clear hres6 ht6
            go_simp
            refine hK _ _ ?_
            clear hK K c0 c1 c2 f0 f1 f2
            refine wpAny_done (by kernel_rfl) ?_ _
            obtain ⟨e0, e1, e2, _⟩ := cells_three (block_three_all Hres6.out (.int .i64 13) (.string ⟨#[]⟩) (.slice (some ⟨w5.heap.size + 3, 0, none⟩) 2 2))
            go_simp
            try go_wp2
            exact bodyPost_ret (v := .agg #[.int .i64 13, .string ⟨#[]⟩, .slice (some ⟨w5.heap.size + 3, 0, none⟩) 2 2]) (by simp [results, Tryz.results202, go_sem, e0, e1, e2]) rfl (Hpost.out _ (Chg.refl _ _))
        · go_simp
          refine (Hcall.out _ (by repeat (first | exact Chg.refl _ _ | apply Chg.drew))).mono ?_
          rintro e w5 ⟨hc5, out5, hG5, hend5⟩
          cases out5 with
          | err y =>
            obtain rfl := hend5
            exact ⟨rfl, Herr.out _ _ y (Chg.refl _ _).drew hc5 hG5⟩
          | ok u L3 =>
            obtain ⟨v5, o5, cap5, rfl, hF5, hR5, hE5⟩ := hend5
            obtain ⟨a5, capv5, rfl⟩ := hF5.agg
            refine hK _ _ ?_
            clear hK K d0 d1 d2
            obtain ⟨d0, d1, d2, _⟩ := cells_three (hc5.at (show W4.drew.heap[w2.heap.size]? = _ from Ht4.out) (fun e => by have e : w2.heap.size = rb := e; have := HL.out.s2; omega))
            refine wpAny_ready (rs := [0]) (by kernel_rfl) (by simp) ?_
            refine AllReady.cons rfl (fun K hK => ?_) AllReady.nil
            go_simp
            refine hK _ _ ?_
            clear hK K d0 d1 d2
            refine wpAny_ready (rs := [3]) (by kernel_rfl) (by simp) ?_
            refine AllReady.cons rfl (fun K hK => ?_) AllReady.nil
            go_simp
            refine (two_any _ _ _ _ _ _ _ _).mono ?_
            rintro e w6 ⟨rfl, hc6, hb6⟩
            refine hK _ _ ?_
            clear hK K
            refine wpAny_ready (rs := [4]) (by kernel_rfl) (by simp) ?_
            refine AllReady.cons rfl (fun K hK => ?_) AllReady.nil
            have hsz := HL.out.s2
            have hrl := HL.out.rbl
            have ht6 := hc6.at (hc5.at (show W4.drew.heap[w2.heap.size]? = _ from Ht4.out) (fun e => by have e : w2.heap.size = rb := e; omega)) (fun e => e)
            obtain ⟨z0, z1, z2, hb3⟩ := HL.out.b3
            have hres6 := hc6.at (hc5.at (show W4.drew.heap[w.heap.size]? = _ from hc4.at hb3 (fun e => by have e : w.heap.size = rb := e; omega)) (fun e => by have e : w.heap.size = rb := e; omega)) (fun e => e)
            have hpost : ∀ w7, Chg (At1 w2.heap.size) w6 w7 → LevPost rb g 4 L w (.returned (.agg #[.int .i64 13, .string ⟨#[]⟩, .slice (some ⟨w5.heap.size + 3, 0, none⟩) 2 2])) (((w7.setCell ⟨w.heap.size, 0, none⟩ (.int .i64 13)).setCell ⟨w.heap.size, 1, none⟩ (.string ⟨#[]⟩)).setCell ⟨w.heap.size, 2, none⟩ (.slice (some ⟨w5.heap.size + 3, 0, none⟩) 2 2)) :=
              fun w7 h67 => HL.out.both (.op_ok (by omega) rfl hG (by rw [hxe]; rfl) hG5) (w4 := W4.drew) hc4.drew hc5 hF5 hR5 hE5 hc6 hb6 h67
            have Hpost := Lib.hid hpost
            clear hpost hb6 hb3 hF5 hR5
            obtain ⟨c0, c1, c2, f0, f1, f2⟩ := cells_three hres6
            have Hres6 := Lib.hid hres6
            clear hres6 ht6
            go_simp
            refine hK _ _ ?_
            clear hK K c0 c1 c2 f0 f1 f2
            refine wpAny_done (by kernel_rfl) ?_ _
            obtain ⟨e0, e1, e2, _⟩ := cells_three (block_three_all Hres6.out (.int .i64 13) (.string ⟨#[]⟩) (.slice (some ⟨w5.heap.size + 3, 0, none⟩) 2 2))
            go_simp
            try go_wp2
            exact bodyPost_ret (v := .agg #[.int .i64 13, .string ⟨#[]⟩, .slice (some ⟨w5.heap.size + 3, 0, none⟩) 2 2]) (by simp [results, Tryz.results202, go_sem, e0, e1, e2]) rfl (Hpost.out _ (Chg.refl _ _))
      | false =>
        (with_reducible refine (is_no [86] (HL.out.r.nob HL.out.c3) hx13).mono ?_)
        rintro e w3 ⟨rfl, rfl⟩
        go_wp2_with fail
        cases hx14 : (x.1 == [87]) with
        | true =>
          have hxe : x.1 = [87] := beq_iff_eq.1 hx14
          have hL2 : Ends L2 := hE2.tail (by rw [hxe]; simp)
          have hL2n : L2 ≠ [] := by obtain ⟨y, r, e⟩ := hL2.cons; rw [e]; simp
          have hlen : L2.length < L.length := by have := G_lev_size hG; rw [List.length_cons] at this; have := sizeT_pos t; omega
          (with_reducible refine (is_yes [87] (HL.out.r.nob HL.out.c3) hxe (by simp) hL2n).mono ?_)
          rintro e w4 ⟨rfl, rfl⟩
          have hR4 := (HL.out.r.nob HL.out.c3).next
          have hc4 := Rs.gone (w := W3) (rb := rb) (.slice (some ⟨g, o' + 2, none⟩) L2.length (cap' - 1))
          have hs4 : (W3.setCell ⟨rb, 0, none⟩ (.slice (some ⟨g, o' + 2, none⟩) L2.length (cap' - 1))).heap.size = W3.heap.size := by simp [World.setCell]
          have Hs4 := Lib.hid hs4
          clear hs4
          go_wp2_with fail
          generalize (W3.setCell ⟨rb, 0, none⟩ (.slice (some ⟨g, o' + 2, none⟩) L2.length (cap' - 1))) = W4 at *
          have Hcall : Hid (∀ w5, Chg Nob W4 w5 → Calls Tryz.prog 202 #[.pointer (some ⟨rb, 0, none⟩)] w5 (LevPost rb g 4 L2 w5)) := fun w5 h5 => H0.out L2 hlen hL2 w5 rb g _ _ (hR4.nob h5) (by have := h5.size; have := Hs4.out; have := HL.out.s3; have := HL.out.s2; omega)
          have ht4 := hc4.at HL.out.t3 (fun e => by have e : w2.heap.size = rb := e; have := HL.out.s2; omega)
          have Ht4 := Lib.hid ht4
          obtain ⟨d0, d1, d2, _⟩ := cells_three ht4
          clear hR4 ht4 hlen hL2 hL2n
          have Herr : Hid (∀ (w4 w5 : World) (y : Int × Nat), Chg Nob W4 w4 → Chg (At1 rb) w4 w5 → G (.lev 4) L2 (.err y) → LevPost rb g 4 L w (.panicked (stopE y.1 y.2)) w5) := fun w4 w5 y h1 h2 h3 =>
            ⟨(((HL.out.cW.any).trans1 HL.out.c2).trans1 (HL.out.c3.any)).trans1 ((hc4.trans1 h1.any).trans1 h2), _, .op_err (by omega) rfl hG (by rw [hxe]; rfl) h3, rfl⟩
          refine wp_region_any (by kernel_rfl) ?_
          refine wpAny_take (i := 1) (v := .pointer (some ⟨rb, 0, none⟩)) rfl (by kernel_rfl) (by kernel_rfl) (by kernel_rfl) (fun _ _ _ h => h) (Or.inl ⟨by rfl, fun _ => rfl⟩) ?_
          simp only [Act.put]
          refine wpAny_ready (rs := [0, 2]) (by kernel_rfl) (by simp) ?_
          refine AllReady.cons rfl (fun K hK => ?_) (AllReady.cons rfl (fun K hK => ?_) AllReady.nil)
          · go_simp
            refine hK _ _ ?_
            clear hK K
            refine wpAny_ready (rs := [2]) (by kernel_rfl) (by simp) ?_
            refine AllReady.cons rfl (fun K hK => ?_) AllReady.nil
            go_simp
            refine (Hcall.out _ (by repeat (first | exact Chg.refl _ _ | apply Chg.drew))).mono ?_
            rintro e w5 ⟨hc5, out5, hG5, hend5⟩
            cases out5 with
            | err y =>
              obtain rfl := hend5
              exact ⟨rfl, Herr.out _ _ y (Chg.refl _ _).drew hc5 hG5⟩
            | ok u L3 =>
              obtain ⟨v5, o5, cap5, rfl, hF5, hR5, hE5⟩ := hend5
              obtain ⟨a5, capv5, rfl⟩ := hF5.agg
              refine hK _ _ ?_
              clear hK K d0 d1 d2
              refine wpAny_ready (rs := [3]) (by kernel_rfl) (by simp) ?_
              refine AllReady.cons rfl (fun K hK => ?_) AllReady.nil
              go_simp
              refine (two_any _ _ _ _ _ _ _ _).mono ?_
              rintro e w6 ⟨rfl, hc6, hb6⟩
              refine hK _ _ ?_
              clear hK K
              refine wpAny_ready (rs := [4]) (by kernel_rfl) (by simp) ?_
              refine AllReady.cons rfl (fun K hK => ?_) AllReady.nil
              have hsz := HL.out.s2
              have hrl := HL.out.rbl
              have ht6 := hc6.at (hc5.at (show W4.drew.heap[w2.heap.size]? = _ from Ht4.out) (fun e => by have e : w2.heap.size = rb := e; omega)) (fun e => e)
              obtain ⟨z0, z1, z2, hb3⟩ := HL.out.b3
              have hres6 := hc6.at (hc5.at (show W4.drew.heap[w.heap.size]? = _ from hc4.at hb3 (fun e => by have e : w.heap.size = rb := e; omega)) (fun e => by have e : w.heap.size = rb := e; omega)) (fun e => e)
              have hpost : ∀ w7, Chg (At1 w2.heap.size) w6 w7 → LevPost rb g 4 L w (.returned (.agg #[.int .i64 14, .string ⟨#[]⟩, .slice (some ⟨w5.heap.size + 3, 0, none⟩) 2 2])) (((w7.setCell ⟨w.heap.size, 0, none⟩ (.int .i64 14)).setCell ⟨w.heap.size, 1, none⟩ (.string ⟨#[]⟩)).setCell ⟨w.heap.size, 2, none⟩ (.slice (some ⟨w5.heap.size + 3, 0, none⟩) 2 2)) :=
                fun w7 h67 => HL.out.both (.op_ok (by omega) rfl hG (by rw [hxe]; rfl) hG5) (w4 := W4.drew) hc4.drew hc5 hF5 hR5 hE5 hc6 hb6 h67
              have Hpost := Lib.hid hpost
              clear hpost hb6 hb3 hF5 hR5
              obtain ⟨c0, c1, c2, f0, f1, f2⟩ := cells_three hres6
              have Hres6 := Lib.hid hres6
              clear hres6 ht6
              go_simp
              refine hK _ _ ?_
              clear hK K c0 c1 c2 f0 f1 f2
              refine wpAny_done (by kernel_rfl) ?_ _
              obtain ⟨e0, e1, e2, _⟩ := cells_three (block_three_all Hres6.out (.int .i64 14) (.string ⟨#[]⟩) (.slice (some ⟨w5.heap.size + 3, 0, none⟩) 2 2))
              go_simp
              try go_wp2
              exact bodyPost_ret (v := .agg #[.int .i64 14, .string ⟨#[]⟩, .slice (some ⟨w5.heap.size + 3, 0, none⟩) 2 2]) (by simp [results, Tryz.results202, go_sem, e0, e1, e2]) rfl (Hpost.out _ (Chg.refl _ _))
          · go_simp
            refine (Hcall.out _ (by repeat (first | exact Chg.refl _ _ | apply Chg.drew))).mono ?_
            rintro e w5 ⟨hc5, out5, hG5, hend5⟩
            cases out5 with
            | err y =>
              obtain rfl := hend5
              exact ⟨rfl, Herr.out _ _ y (Chg.refl _ _).drew hc5 hG5⟩
            | ok u L3 =>
              obtain ⟨v5, o5, cap5, rfl, hF5, hR5, hE5⟩ := hend5
              obtain ⟨a5, capv5, rfl⟩ := hF5.agg
              refine hK _ _ ?_
              clear hK K d0 d1 d2
              obtain ⟨d0, d1, d2, _⟩ := cells_three (hc5.at (show W4.drew.heap[w2.heap.size]? = _ from Ht4.out) (fun e => by have e : w2.heap.size = rb := e; have := HL.out.s2; omega))
              refine wpAny_ready (rs := [0]) (by kernel_rfl) (by simp) ?_
              refine AllReady.cons rfl (fun K hK => ?_) AllReady.nil
              go_simp
              refine hK _ _ ?_
              clear hK K d0 d1 d2
              refine wpAny_ready (rs := [3]) (by kernel_rfl) (by simp) ?_
              refine AllReady.cons rfl (fun K hK => ?_) AllReady.nil
              go_simp
              refine (two_any _ _ _ _ _ _ _ _).mono ?_
              rintro e w6 ⟨rfl, hc6, hb6⟩
              refine hK _ _ ?_
              clear hK K
              refine wpAny_ready (rs := [4]) (by kernel_rfl) (by simp) ?_
              refine AllReady.cons rfl (fun K hK => ?_) AllReady.nil
              have hsz := HL.out.s2
              have hrl := HL.out.rbl
              have ht6 := hc6.at (hc5.at (show W4.drew.heap[w2.heap.size]? = _ from Ht4.out) (fun e => by have e : w2.heap.size = rb := e; omega)) (fun e => e)
              obtain ⟨z0, z1, z2, hb3⟩ := HL.out.b3
              have hres6 := hc6.at (hc5.at (show W4.drew.heap[w.heap.size]? = _ from hc4.at hb3 (fun e => by have e : w.heap.size = rb := e; omega)) (fun e => by have e : w.heap.size = rb := e; omega)) (fun e => e)
              have hpost : ∀ w7, Chg (At1 w2.heap.size) w6 w7 → LevPost rb g 4 L w (.returned (.agg #[.int .i64 14, .string ⟨#[]⟩, .slice (some ⟨w5.heap.size + 3, 0, none⟩) 2 2])) (((w7.setCell ⟨w.heap.size, 0, none⟩ (.int .i64 14)).setCell ⟨w.heap.size, 1, none⟩ (.string ⟨#[]⟩)).setCell ⟨w.heap.size, 2, none⟩ (.slice (some ⟨w5.heap.size + 3, 0, none⟩) 2 2)) :=
                fun w7 h67 => HL.out.both (.op_ok (by omega) rfl hG (by rw [hxe]; rfl) hG5) (w4 := W4.drew) hc4.drew hc5 hF5 hR5 hE5 hc6 hb6 h67
              have Hpost := Lib.hid hpost
              clear hpost hb6 hb3 hF5 hR5
              obtain ⟨c0, c1, c2, f0, f1, f2⟩ := cells_three hres6
              have Hres6 := Lib.hid hres6
              clear hres6 ht6
              go_simp
              refine hK _ _ ?_
              clear hK K c0 c1 c2 f0 f1 f2
              refine wpAny_done (by kernel_rfl) ?_ _
              obtain ⟨e0, e1, e2, _⟩ := cells_three (block_three_all Hres6.out (.int .i64 14) (.string ⟨#[]⟩) (.slice (some ⟨w5.heap.size + 3, 0, none⟩) 2 2))
              go_simp
              try go_wp2
              exact bodyPost_ret (v := .agg #[.int .i64 14, .string ⟨#[]⟩, .slice (some ⟨w5.heap.size + 3, 0, none⟩) 2 2]) (by simp [results, Tryz.results202, go_sem, e0, e1, e2]) rfl (Hpost.out _ (Chg.refl _ _))
        | false =>
          (with_reducible refine (is_no [87] (HL.out.r.nob HL.out.c3) hx14).mono ?_)
          rintro e w3 ⟨rfl, rfl⟩
          obtain ⟨z0, z1, z2, hb3⟩ := HL.out.b3
          obtain ⟨c0, c1, c2, f0, f1, f2⟩ := cells_three hb3
          obtain ⟨d0, d1, d2, _⟩ := cells_three HL.out.t3
          have Hb3 := Lib.hid hb3
          clear hb3
          go_wp2
          obtain ⟨e0, e1, e2, _⟩ := cells_three (block_three_all Hb3.out (.int .i64 t.kind) (.string ⟨t.name.toArray⟩) (.slice ao t.kids.length capv))
          exact bodyPost_ret (v := .agg #[.int .i64 t.kind, .string ⟨t.name.toArray⟩, .slice ao t.kids.length capv]) (by simp [results, Tryz.results202, go_sem, e0, e1, e2]) rfl (HL.out.same (Chg.refl _ _) (.none (by omega) rfl hG (op_neq4 hx12 hx13 hx14)))
end Go.Proofs.YtkgfdgfhpdhhaaaGreat
