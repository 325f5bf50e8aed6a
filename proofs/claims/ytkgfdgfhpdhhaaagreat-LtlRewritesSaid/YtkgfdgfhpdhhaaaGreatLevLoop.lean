/- The reader's levels of || and &&. Conditions: the words lie in the world. -/
import Derived.Test.YtkgfdgfhpdhhaaaGreatLev
namespace Go.Proofs.YtkgfdgfhpdhhaaaGreat
open Go.ChangeShapes Go.WideShapes Go.RowKit

set_option maxRecDepth 100000 in
set_option maxHeartbeats 4000000 in
theorem or_any (L : List Tok) (hE : Ends L) (h1 : LevC 190 3 L) (h0 : ∀ L', L'.length < L.length → Ends L' → LevC 190 3 L') : LevC 161 2 L := by
  intro w rb g o cap hR hrb
  have hcW : Chg Nob w (w.alloc (.cells #[.int .i64 0, .string ⟨#[]⟩, .slice none 0 0] 24)) := (Chg.refl _ _).alloc _
  have hcall := h1 _ rb g o cap (hR.nob hcW) (by rw [World.size_alloc]; omega)
  have hres := heap_alloc_new w (.cells #[.int .i64 0, .string ⟨#[]⟩, .slice none 0 0] 24)
  have Hres := Lib.hid hres
  have HW1s := Lib.hid (World.size_alloc w (.cells #[.int .i64 0, .string ⟨#[]⟩, .slice none 0 0] 24))
  have H0 := Lib.hid h0
  have hgl : g < w.heap.size := by
    obtain ⟨y, r, e⟩ := hE.cons
    subst e
    exact hR.g_lt
  clear h1 h0 hR hres
  go_enter Tryz.func161, Tryz.ntmps161
  go_wp2_with fail
  generalize w.alloc (.cells #[.int .i64 0, .string ⟨#[]⟩, .slice none 0 0] 24) = W1 at *
  (with_reducible refine hcall.mono ?_)
  clear hcall
  rintro e w2 ⟨hc2, out, hG, hend⟩
  rw [HW1s.out] at hend
  cases out with
  | err x =>
    obtain rfl := hend
    go_wp2
    exact ⟨rfl, (hcW.any).trans1 hc2, _, .down_err (by omega) hG, rfl⟩
  | ok t L' =>
    obtain ⟨v, o', cap', rfl, hF, hR2, hE2⟩ := hend
    obtain ⟨x, L2, rfl⟩ := hE2.cons
    obtain ⟨ao, capv, rfl⟩ := hF.agg
    have hL : Hid (∃ W3, W3 = w2.alloc (.cells #[.int .i64 t.kind, .string ⟨t.name.toArray⟩, .slice ao t.kids.length capv] 24) ∧ Lft rb g L t x L2 o' cap' (.int .i64 t.kind) (.string ⟨t.name.toArray⟩) (.slice ao t.kids.length capv) w W1 w2 W3) :=
      ⟨_, rfl, hrb, hgl, hcW, HW1s.out, hc2, hF, hR2, hE2, (Chg.refl _ _).alloc _, World.size_alloc _ _, ⟨_, _, _, ((Chg.refl Nob w2).alloc _).at (hc2.at Hres.out (fun e => by have e : w.heap.size = rb := e; omega)) (fun e => e)⟩, heap_alloc_new w2 _⟩
    clear hc2 hF hR2 Hres hcW
    go_wp2_with fail
    obtain ⟨W3, hW3, hl⟩ := hL.out
    rw [← hW3]
    clear hW3 hL
    have HL := Lib.hid hl
    clear hl
    have hlp : Hid (Lp rb g 2 L w w2.heap.size t (x :: L2) (.int .i64 t.kind) (.string ⟨t.name.toArray⟩) (.slice ao t.kids.length capv) W3) := HL.out.loop (by omega) rfl hG
    clear HL hG hE2 HW1s
    go_loopg [] L.length (fun k wr => ∃ (t : T) (M : List Tok) (a0 a1 a2 : Value), M.length ≤ k ∧ Hid (Lp rb g 2 L w w2.heap.size t M a0 a1 a2 wr))
    case atStart => exact ⟨_, _, _, _, _, Nat.le_of_lt hlp.out.len, hlp⟩
    case round =>
      clear hlp
      obtain ⟨t, M, a0, a1, a2, hgk, HL⟩ := hrel
      obtain ⟨x, M2, rfl⟩ := HL.out.e.cons
      obtain ⟨ak, capk, eq⟩ := HL.out.f.agg
      simp at eq
      obtain ⟨rfl, rfl, rfl⟩ := eq
      obtain ⟨oR, capR, hR⟩ := HL.out.r
      cases hx : (x.1 == [124, 124]) with
      | false =>
        go_wp2_with fail
        (with_reducible refine (is_no [124, 124] hR hx).mono ?_)
        rintro e w3 ⟨rfl, rfl⟩
        obtain ⟨z0, z1, z2, hb3⟩ := HL.out.b
        obtain ⟨c0, c1, c2, f0, f1, f2⟩ := cells_three hb3
        obtain ⟨d0, d1, d2, _⟩ := cells_three HL.out.d
        have Hb3 := Lib.hid hb3
        clear hb3 hR
        go_wp2
        obtain ⟨e0, e1, e2, _⟩ := cells_three (block_three_all Hb3.out (.int .i64 t.kind) (.string ⟨t.name.toArray⟩) (.slice ak t.kids.length capk))
        exact bodyPost_ret (v := .agg #[.int .i64 t.kind, .string ⟨t.name.toArray⟩, .slice ak t.kids.length capk]) (by simp [results, Tryz.results161, go_sem, e0, e1, e2]) rfl (HL.out.same (HL.out.cont _ (.stop rfl (op_neq2 hx))))
      | true =>
        have hxe : x.1 = [124, 124] := beq_iff_eq.1 hx
        have hM2 : Ends M2 := HL.out.e.tail (by rw [hxe]; simp)
        have hM2n : M2 ≠ [] := by obtain ⟨y, r, e⟩ := hM2.cons; rw [e]; simp
        have hlen : M2.length < L.length := by have := HL.out.len; rw [List.length_cons] at this; omega
        have hR4 := hR.next
        have hc4 := Rs.gone (w := wr) (rb := rb) (.slice (some ⟨g, oR + 2, none⟩) M2.length (capR - 1))
        have hs4 : (wr.setCell ⟨rb, 0, none⟩ (.slice (some ⟨g, oR + 2, none⟩) M2.length (capR - 1))).heap.size = wr.heap.size := by simp [World.setCell]
        have Hs4 := Lib.hid hs4
        clear hs4
        go_wp2_with fail
        (with_reducible refine (is_yes [124, 124] hR hxe (by simp) hM2n).mono ?_)
        rintro e w4 ⟨rfl, rfl⟩
        go_wp2_with fail
        generalize (wr.setCell ⟨rb, 0, none⟩ (.slice (some ⟨g, oR + 2, none⟩) M2.length (capR - 1))) = W4 at *
        have Hcall : Hid (∀ w5, Chg Nob W4 w5 → Calls Tryz.prog 190 #[.pointer (some ⟨rb, 0, none⟩)] w5 (LevPost rb g 3 M2 w5)) := fun w5 h5 => H0.out M2 hlen hM2 w5 rb g _ _ (hR4.nob h5) (by have := h5.size; have := Hs4.out; have := HL.out.dl; omega)
        have ht4 := hc4.at HL.out.d (fun e => by have e : w2.heap.size = rb := e; have := HL.out.dl; omega)
        have Ht4 := Lib.hid ht4
        obtain ⟨d0, d1, d2, _⟩ := cells_three ht4
        clear hx hR4 ht4 hlen hM2 hM2n hR
        have Herr : Hid (∀ (w4 w5 : World) (y : Int × Nat), Chg Nob W4 w4 → Chg (At1 rb) w4 w5 → G (.lev 3) M2 (.err y) → LevPost rb g 2 L w (.panicked (stopE y.1 y.2)) w5) := fun w4 w5 y h1 h2 h3 =>
          ⟨HL.out.c.trans1 ((hc4.trans1 h1.any).trans1 h2), _, HL.out.cont _ (.go_err rfl (by rw [hxe]; rfl) h3), rfl⟩
        refine wp_region_any (by kernel_rfl) ?_
        refine wpAny_take (i := 1) (v := .pointer (some ⟨rb, 0, none⟩)) rfl (by kernel_rfl) (by kernel_rfl) (by kernel_rfl) (fun _ _ _ h => h) (Or.inl ⟨by rfl, fun _ => rfl⟩) ?_
        simp only [Act.put]
        refine wpAny_ready (rs := [0, 2]) (by kernel_rfl) (by simp) ?_
        refine AllReady.cons rfl (fun K hK => ?_) (AllReady.cons rfl (fun K hK => ?_) AllReady.nil)
        · go_simp
          refine hK _ _ ?_
          clear hK K
          refine wpAny_ready (rs := [2]) (by kernel_rfl) (by simp) ?_
          refine AllReady.cons rfl (fun K hK => ?_) AllReady.nil
          go_simp
          refine (Hcall.out _ (by repeat (first | exact Chg.refl _ _ | apply Chg.drew))).mono ?_
          rintro e w5 ⟨hc5, out5, hG5, hend5⟩
          cases out5 with
          | err y =>
            obtain rfl := hend5
            exact ⟨rfl, Herr.out _ _ y (Chg.refl _ _).drew hc5 hG5⟩
          | ok u L3 =>
            obtain ⟨v5, o5, cap5, rfl, hF5, hR5, hE5⟩ := hend5
            obtain ⟨a5, capv5, rfl⟩ := hF5.agg
            refine hK _ _ ?_
            clear hK K d0 d1 d2
            refine wpAny_ready (rs := [3]) (by kernel_rfl) (by simp) ?_
            refine AllReady.cons rfl (fun K hK => ?_) AllReady.nil
            go_simp
            refine (two_any _ _ _ _ _ _ _ _).mono ?_
            rintro e w6 ⟨rfl, hc6, hb6⟩
            refine hK _ _ ?_
            clear hK K
            refine wpAny_ready (rs := [4]) (by kernel_rfl) (by simp) ?_
            refine AllReady.cons rfl (fun K hK => ?_) AllReady.nil
            have hsz := HL.out.dl
            have hrl := HL.out.rbl
            have ht6 := hc6.at (hc5.at (show W4.drew.heap[w2.heap.size]? = _ from Ht4.out) (fun e => by have e : w2.heap.size = rb := e; omega)) (fun e => e)
            have Hnext := Lib.hid (HL.out.next rfl (by rw [hxe]; rfl) (w4 := W4.drew) hc4.drew hc5 hG5 hF5 hR5 hE5 hc6 hb6 (k := 9))
            have hless : L3.length < gk := by have := G_lev_size hG5; have := sizeT_pos u; rw [List.length_cons] at hgk; omega
            clear hb6 hF5 hR5 hG5 hE5
            obtain ⟨d0, d1, d2, f0, f1, f2⟩ := cells_three ht6
            clear ht6
            go_simp
            refine hK _ _ ?_
            clear hK K d0 d1 d2 f0 f1 f2
            refine wpAny_done (by kernel_rfl) ?_ _
            generalize ((w6.setCell ⟨w2.heap.size, 0, none⟩ (.int .i64 9)).setCell ⟨w2.heap.size, 1, none⟩ (.string ⟨#[]⟩)).setCell ⟨w2.heap.size, 2, none⟩ (.slice (some ⟨w5.heap.size + 3, 0, none⟩) 2 2) = w7 at *
            go_simp
            try go_wp2
            go_roundg L3.length
            case measure => exact hless
            case rel => exact ⟨_, _, _, _, _, Nat.le_refl _, Hnext⟩
        · go_simp
          refine (Hcall.out _ (by repeat (first | exact Chg.refl _ _ | apply Chg.drew))).mono ?_
          rintro e w5 ⟨hc5, out5, hG5, hend5⟩
          cases out5 with
          | err y =>
            obtain rfl := hend5
            exact ⟨rfl, Herr.out _ _ y (Chg.refl _ _).drew hc5 hG5⟩
          | ok u L3 =>
            obtain ⟨v5, o5, cap5, rfl, hF5, hR5, hE5⟩ := hend5
            obtain ⟨a5, capv5, rfl⟩ := hF5.agg
            refine hK _ _ ?_
            clear hK K d0 d1 d2
            obtain ⟨d0, d1, d2, _⟩ := cells_three (hc5.at (show W4.drew.heap[w2.heap.size]? = _ from Ht4.out) (fun e => by have e : w2.heap.size = rb := e; have := HL.out.dl; have := HL.out.rbl; omega))
            refine wpAny_ready (rs := [0]) (by kernel_rfl) (by simp) ?_
            refine AllReady.cons rfl (fun K hK => ?_) AllReady.nil
            go_simp
            refine hK _ _ ?_
            clear hK K d0 d1 d2
            refine wpAny_ready (rs := [3]) (by kernel_rfl) (by simp) ?_
            refine AllReady.cons rfl (fun K hK => ?_) AllReady.nil
            go_simp
            refine (two_any _ _ _ _ _ _ _ _).mono ?_
            rintro e w6 ⟨rfl, hc6, hb6⟩
            refine hK _ _ ?_
            clear hK K
            refine wpAny_ready (rs := [4]) (by kernel_rfl) (by simp) ?_
            refine AllReady.cons rfl (fun K hK => ?_) AllReady.nil
            have hsz := HL.out.dl
            have hrl := HL.out.rbl
            have ht6 := hc6.at (hc5.at (show W4.drew.heap[w2.heap.size]? = _ from Ht4.out) (fun e => by have e : w2.heap.size = rb := e; omega)) (fun e => e)
            have Hnext := Lib.hid (HL.out.next rfl (by rw [hxe]; rfl) (w4 := W4.drew) hc4.drew hc5 hG5 hF5 hR5 hE5 hc6 hb6 (k := 9))
            have hless : L3.length < gk := by have := G_lev_size hG5; have := sizeT_pos u; rw [List.length_cons] at hgk; omega
            clear hb6 hF5 hR5 hG5 hE5
            obtain ⟨d0, d1, d2, f0, f1, f2⟩ := cells_three ht6
            clear ht6
            go_simp
            refine hK _ _ ?_
            clear hK K d0 d1 d2 f0 f1 f2
            refine wpAny_done (by kernel_rfl) ?_ _
            generalize ((w6.setCell ⟨w2.heap.size, 0, none⟩ (.int .i64 9)).setCell ⟨w2.heap.size, 1, none⟩ (.string ⟨#[]⟩)).setCell ⟨w2.heap.size, 2, none⟩ (.slice (some ⟨w5.heap.size + 3, 0, none⟩) 2 2) = w7 at *
            go_simp
            try go_wp2
            go_roundg L3.length
            case measure => exact hless
            case rel => exact ⟨_, _, _, _, _, Nat.le_refl _, Hnext⟩
set_option maxRecDepth 100000 in
set_option maxHeartbeats 4000000 in
theorem and_any (L : List Tok) (hE : Ends L) (h1 : LevC 202 4 L) (h0 : ∀ L', L'.length < L.length → Ends L' → LevC 202 4 L') : LevC 190 3 L := by
  intro w rb g o cap hR hrb
  have hcW : Chg Nob w (w.alloc (.cells #[.int .i64 0, .string ⟨#[]⟩, .slice none 0 0] 24)) := (Chg.refl _ _).alloc _
  have hcall := h1 _ rb g o cap (hR.nob hcW) (by rw [World.size_alloc]; omega)
  have hres := heap_alloc_new w (.cells #[.int .i64 0, .string ⟨#[]⟩, .slice none 0 0] 24)
  have Hres := Lib.hid hres
  have HW1s := Lib.hid (World.size_alloc w (.cells #[.int .i64 0, .string ⟨#[]⟩, .slice none 0 0] 24))
  have H0 := Lib.hid h0
  have hgl : g < w.heap.size := by
    obtain ⟨y, r, e⟩ := hE.cons
    subst e
    exact hR.g_lt
  clear h1 h0 hR hres
  go_enter Tryz.func190, Tryz.ntmps190
  go_wp2_with fail
  generalize w.alloc (.cells #[.int .i64 0, .string ⟨#[]⟩, .slice none 0 0] 24) = W1 at *
  (with_reducible refine hcall.mono ?_)
  clear hcall
  rintro e w2 ⟨hc2, out, hG, hend⟩
  rw [HW1s.out] at hend
  cases out with
  | err x =>
    obtain rfl := hend
    go_wp2
    exact ⟨rfl, (hcW.any).trans1 hc2, _, .down_err (by omega) hG, rfl⟩
  | ok t L' =>
    obtain ⟨v, o', cap', rfl, hF, hR2, hE2⟩ := hend
    obtain ⟨x, L2, rfl⟩ := hE2.cons
    obtain ⟨ao, capv, rfl⟩ := hF.agg
    have hL : Hid (∃ W3, W3 = w2.alloc (.cells #[.int .i64 t.kind, .string ⟨t.name.toArray⟩, .slice ao t.kids.length capv] 24) ∧ Lft rb g L t x L2 o' cap' (.int .i64 t.kind) (.string ⟨t.name.toArray⟩) (.slice ao t.kids.length capv) w W1 w2 W3) :=
      ⟨_, rfl, hrb, hgl, hcW, HW1s.out, hc2, hF, hR2, hE2, (Chg.refl _ _).alloc _, World.size_alloc _ _, ⟨_, _, _, ((Chg.refl Nob w2).alloc _).at (hc2.at Hres.out (fun e => by have e : w.heap.size = rb := e; omega)) (fun e => e)⟩, heap_alloc_new w2 _⟩
    clear hc2 hF hR2 Hres hcW
    go_wp2_with fail
    obtain ⟨W3, hW3, hl⟩ := hL.out
    rw [← hW3]
    clear hW3 hL
    have HL := Lib.hid hl
    clear hl
    have hlp : Hid (Lp rb g 3 L w w2.heap.size t (x :: L2) (.int .i64 t.kind) (.string ⟨t.name.toArray⟩) (.slice ao t.kids.length capv) W3) := HL.out.loop (by omega) rfl hG
    clear HL hG hE2 HW1s
    go_loopg [] L.length (fun k wr => ∃ (t : T) (M : List Tok) (a0 a1 a2 : Value), M.length ≤ k ∧ Hid (Lp rb g 3 L w w2.heap.size t M a0 a1 a2 wr))
    case atStart => exact ⟨_, _, _, _, _, Nat.le_of_lt hlp.out.len, hlp⟩
    case round =>
      clear hlp
      obtain ⟨t, M, a0, a1, a2, hgk, HL⟩ := hrel
      obtain ⟨x, M2, rfl⟩ := HL.out.e.cons
      obtain ⟨ak, capk, eq⟩ := HL.out.f.agg
      simp at eq
      obtain ⟨rfl, rfl, rfl⟩ := eq
      obtain ⟨oR, capR, hR⟩ := HL.out.r
      cases hx : (x.1 == [38, 38]) with
      | false =>
        go_wp2_with fail
        (with_reducible refine (is_no [38, 38] hR hx).mono ?_)
        rintro e w3 ⟨rfl, rfl⟩
        obtain ⟨z0, z1, z2, hb3⟩ := HL.out.b
        obtain ⟨c0, c1, c2, f0, f1, f2⟩ := cells_three hb3
        obtain ⟨d0, d1, d2, _⟩ := cells_three HL.out.d
        have Hb3 := Lib.hid hb3
        clear hb3 hR
        go_wp2
        obtain ⟨e0, e1, e2, _⟩ := cells_three (block_three_all Hb3.out (.int .i64 t.kind) (.string ⟨t.name.toArray⟩) (.slice ak t.kids.length capk))
        exact bodyPost_ret (v := .agg #[.int .i64 t.kind, .string ⟨t.name.toArray⟩, .slice ak t.kids.length capk]) (by simp [results, Tryz.results190, go_sem, e0, e1, e2]) rfl (HL.out.same (HL.out.cont _ (.stop rfl (op_neq3 hx))))
      | true =>
        have hxe : x.1 = [38, 38] := beq_iff_eq.1 hx
        have hM2 : Ends M2 := HL.out.e.tail (by rw [hxe]; simp)
        have hM2n : M2 ≠ [] := by obtain ⟨y, r, e⟩ := hM2.cons; rw [e]; simp
        have hlen : M2.length < L.length := by have := HL.out.len; rw [List.length_cons] at this; omega
        have hR4 := hR.next
        have hc4 := Rs.gone (w := wr) (rb := rb) (.slice (some ⟨g, oR + 2, none⟩) M2.length (capR - 1))
        have hs4 : (wr.setCell ⟨rb, 0, none⟩ (.slice (some ⟨g, oR + 2, none⟩) M2.length (capR - 1))).heap.size = wr.heap.size := by simp [World.setCell]
        have Hs4 := Lib.hid hs4
        clear hs4
        go_wp2_with fail
        (with_reducible refine (is_yes [38, 38] hR hxe (by simp) hM2n).mono ?_)
        rintro e w4 ⟨rfl, rfl⟩
        go_wp2_with fail
        generalize (wr.setCell ⟨rb, 0, none⟩ (.slice (some ⟨g, oR + 2, none⟩) M2.length (capR - 1))) = W4 at *
        have Hcall : Hid (∀ w5, Chg Nob W4 w5 → Calls Tryz.prog 202 #[.pointer (some ⟨rb, 0, none⟩)] w5 (LevPost rb g 4 M2 w5)) := fun w5 h5 => H0.out M2 hlen hM2 w5 rb g _ _ (hR4.nob h5) (by have := h5.size; have := Hs4.out; have := HL.out.dl; omega)
        have ht4 := hc4.at HL.out.d (fun e => by have e : w2.heap.size = rb := e; have := HL.out.dl; omega)
        have Ht4 := Lib.hid ht4
        obtain ⟨d0, d1, d2, _⟩ := cells_three ht4
        clear hx hR4 ht4 hlen hM2 hM2n hR
        have Herr : Hid (∀ (w4 w5 : World) (y : Int × Nat), Chg Nob W4 w4 → Chg (At1 rb) w4 w5 → G (.lev 4) M2 (.err y) → LevPost rb g 3 L w (.panicked (stopE y.1 y.2)) w5) := fun w4 w5 y h1 h2 h3 =>
          ⟨HL.out.c.trans1 ((hc4.trans1 h1.any).trans1 h2), _, HL.out.cont _ (.go_err rfl (by rw [hxe]; rfl) h3), rfl⟩
        refine wp_region_any (by kernel_rfl) ?_
        refine wpAny_take (i := 1) (v := .pointer (some ⟨rb, 0, none⟩)) rfl (by kernel_rfl) (by kernel_rfl) (by kernel_rfl) (fun _ _ _ h => h) (Or.inl ⟨by rfl, fun _ => rfl⟩) ?_
        simp only [Act.put]
        refine wpAny_ready (rs := [0, 2]) (by kernel_rfl) (by simp) ?_
        refine AllReady.cons rfl (fun K hK => ?_) (AllReady.cons rfl (fun K hK => ?_) AllReady.nil)
        · go_simp
          refine hK _ _ ?_
          clear hK K
          refine wpAny_ready (rs := [2]) (by kernel_rfl) (by simp) ?_
          refine AllReady.cons rfl (fun K hK => ?_) AllReady.nil
          go_simp
          refine (Hcall.out _ (by repeat (first | exact Chg.refl _ _ | apply Chg.drew))).mono ?_
          rintro e w5 ⟨hc5, out5, hG5, hend5⟩
          cases out5 with
          | err y =>
            obtain rfl := hend5
            exact ⟨rfl, Herr.out _ _ y (Chg.refl _ _).drew hc5 hG5⟩
          | ok u L3 =>
            obtain ⟨v5, o5, cap5, rfl, hF5, hR5, hE5⟩ := hend5
            obtain ⟨a5, capv5, rfl⟩ := hF5.agg
            refine hK _ _ ?_
            clear hK K d0 d1 d2
            refine wpAny_ready (rs := [3]) (by kernel_rfl) (by simp) ?_
            refine AllReady.cons rfl (fun K hK => ?_) AllReady.nil
            go_simp
            refine (two_any _ _ _ _ _ _ _ _).mono ?_
            rintro e w6 ⟨rfl, hc6, hb6⟩
            refine hK _ _ ?_
            clear hK K
            refine wpAny_ready (rs := [4]) (by kernel_rfl) (by simp) ?_
            refine AllReady.cons rfl (fun K hK => ?_) AllReady.nil
            have hsz := HL.out.dl
            have hrl := HL.out.rbl
            have ht6 := hc6.at (hc5.at (show W4.drew.heap[w2.heap.size]? = _ from Ht4.out) (fun e => by have e : w2.heap.size = rb := e; omega)) (fun e => e)
            have Hnext := Lib.hid (HL.out.next rfl (by rw [hxe]; rfl) (w4 := W4.drew) hc4.drew hc5 hG5 hF5 hR5 hE5 hc6 hb6 (k := 8))
            have hless : L3.length < gk := by have := G_lev_size hG5; have := sizeT_pos u; rw [List.length_cons] at hgk; omega
            clear hb6 hF5 hR5 hG5 hE5
            obtain ⟨d0, d1, d2, f0, f1, f2⟩ := cells_three ht6
            clear ht6
            go_simp
            refine hK _ _ ?_
            clear hK K d0 d1 d2 f0 f1 f2
            refine wpAny_done (by kernel_rfl) ?_ _
            generalize ((w6.setCell ⟨w2.heap.size, 0, none⟩ (.int .i64 8)).setCell ⟨w2.heap.size, 1, none⟩ (.string ⟨#[]⟩)).setCell ⟨w2.heap.size, 2, none⟩ (.slice (some ⟨w5.heap.size + 3, 0, none⟩) 2 2) = w7 at *
            go_simp
            try go_wp2
            go_roundg L3.length
            case measure => exact hless
            case rel => exact ⟨_, _, _, _, _, Nat.le_refl _, Hnext⟩
        · go_simp
          refine (Hcall.out _ (by repeat (first | exact Chg.refl _ _ | apply Chg.drew))).mono ?_
          rintro e w5 ⟨hc5, out5, hG5, hend5⟩
          cases out5 with
          | err y =>
            obtain rfl := hend5
            exact ⟨rfl, Herr.out _ _ y (Chg.refl _ _).drew hc5 hG5⟩
          | ok u L3 =>
            obtain ⟨v5, o5, cap5, rfl, hF5, hR5, hE5⟩ := hend5
            obtain ⟨a5, capv5, rfl⟩ := hF5.agg
            refine hK _ _ ?_
            clear hK K d0 d1 d2
            obtain ⟨d0, d1, d2, _⟩ := cells_three (hc5.at (show W4.drew.heap[w2.heap.size]? = _ from Ht4.out) (fun e => by have e : w2.heap.size = rb := e; have := HL.out.dl; have := HL.out.rbl; omega))
            refine wpAny_ready (rs := [0]) (by kernel_rfl) (by simp) ?_
            refine AllReady.cons rfl (fun K hK => ?_) AllReady.nil
            go_simp
            refine hK _ _ ?_
            clear hK K d0 d1 d2
            refine wpAny_ready (rs := [3]) (by kernel_rfl) (by simp) ?_
            refine AllReady.cons rfl (fun K hK => ?_) AllReady.nil
            go_simp
            refine (two_any _ _ _ _ _ _ _ _).mono ?_
            rintro e w6 ⟨rfl, hc6, hb6⟩
            refine hK _ _ ?_
            clear hK K
            refine wpAny_ready (rs := [4]) (by kernel_rfl) (by simp) ?_
            refine AllReady.cons rfl (fun K hK => ?_) AllReady.nil
            have hsz := HL.out.dl
            have hrl := HL.out.rbl
            have ht6 := hc6.at (hc5.at (show W4.drew.heap[w2.heap.size]? = _ from Ht4.out) (fun e => by have e : w2.heap.size = rb := e; omega)) (fun e => e)
            have Hnext := Lib.hid (HL.out.next rfl (by rw [hxe]; rfl) (w4 := W4.drew) hc4.drew hc5 hG5 hF5 hR5 hE5 hc6 hb6 (k := 8))
            have hless : L3.length < gk := by have := G_lev_size hG5; have := sizeT_pos u; rw [List.length_cons] at hgk; omega
            clear hb6 hF5 hR5 hG5 hE5
            obtain ⟨d0, d1, d2, f0, f1, f2⟩ := cells_three ht6
            clear ht6
            go_simp
            refine hK _ _ ?_
            clear hK K d0 d1 d2 f0 f1 f2
            refine wpAny_done (by kernel_rfl) ?_ _
            generalize ((w6.setCell ⟨w2.heap.size, 0, none⟩ (.int .i64 8)).setCell ⟨w2.heap.size, 1, none⟩ (.string ⟨#[]⟩)).setCell ⟨w2.heap.size, 2, none⟩ (.slice (some ⟨w5.heap.size + 3, 0, none⟩) 2 2) = w7 at *
            go_simp
            try go_wp2
            go_roundg L3.length
            case measure => exact hless
            case rel => exact ⟨_, _, _, _, _, Nat.le_refl _, Hnext⟩
end Go.Proofs.YtkgfdgfhpdhhaaaGreat
