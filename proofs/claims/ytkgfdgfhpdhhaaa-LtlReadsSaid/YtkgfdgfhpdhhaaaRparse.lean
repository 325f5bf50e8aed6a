/- The reference's Parse: what a text says, or where it is refused. Conditions: none. -/
import Derived.Test.YtkgfdgfhpdhhaaaRfor
import Derived.Test.YtkgfdgfhpdhhaaaParse
import Derived.Test.YtkgfdgfhpdhhaaaFree
namespace Go.Proofs.Ytkgfdgfhpdhhaaa
open Go.ChangeShapes Go.WideShapes Go.ChangeAt Go.RowKit

theorem results24 {B : Nat} {tm : Array Value} {w : World} {a0 a1 a2 m0 m1 : Value} (h2 : tm[2]? = some (.pointer (some ⟨B, 0, none⟩))) (h3 : tm[3]? = some (.pointer (some ⟨B + 1, 0, none⟩))) (hb : w.heap[B]? = some (.cells #[a0, a1, a2] 37)) (hb1 : w.heap[B + 1]? = some (.cells #[m0, m1] 39)) :
    (results Try.f24 tm).run Try.prog w = .ok (.tuple #[.agg #[a0, a1, a2], .agg #[m0, m1]]) w := by
  obtain ⟨c0, c1, c2, _⟩ := cells_three hb
  obtain ⟨d0, d1, _⟩ := cell_two hb1
  simp [results, Try.results24, go_sem, h2, h3, c0, c1, c2, d0, d1]
theorem ownsRow_tokat77 {w : World} {B g n cap : Nat} {L : List Tok} (h : w.ownsRow B 77 2 (.slice (some ⟨g, 0, none⟩) n cap) n (tokCells L)) : TokAt w g 0 L := by
  intro j x hx
  have key : ∀ (L : List Tok) (j : Nat) (x : Tok), L[j]? = some x → (tokCells L)[j * 2]? = some (.string ⟨x.1.toArray⟩) ∧ (tokCells L)[j * 2 + 1]? = some (.int .i64 (x.2 : Int)) := by
    intro L
    induction L with
    | nil => intro j x h; simp at h
    | cons y L ih =>
      intro j x h
      have e : tokCells (y :: L) = .string ⟨y.1.toArray⟩ :: .int .i64 (y.2 : Int) :: tokCells L := rfl
      rw [e]
      cases j with
      | zero =>
        obtain rfl : y = x := by simpa using h
        exact ⟨rfl, rfl⟩
      | succ j =>
        have := ih j x (by simpa using h)
        rw [show (j + 1) * 2 = j * 2 + 1 + 1 by omega]
        simpa using this
  have := key L j x hx
  rw [Nat.zero_add]
  exact ⟨ownsRow_at h this.1, ownsRow_at h this.2⟩
theorem pz_start {w : World} {B : Nat} {v : Value} {L : List Tok} (h : w.ownsRow B 77 2 v L.length (tokCells L)) (hl : L.length ≤ 5000) (hz : 0 < w.heap.size) :
    ∃ g, Pz (w.alloc (.cells #[v, .int .i64 0, .int .i64 (-1)] 74)) w.heap.size g v L 0 (-1) ∧ g < w.heap.size ∧ (L ≠ [] → B ≤ g) := by
  have hA : Chg Nob w (w.alloc (.cells #[v, .int .i64 0, .int .i64 (-1)] 74)) := (Chg.refl _ _).alloc _
  have hs : (w.alloc (.cells #[v, .int .i64 0, .int .i64 (-1)] 74)).heap.size = w.heap.size + 1 := World.size_alloc _ _
  by_cases hL : L = []
  · subst hL
    obtain ⟨ao, c, rfl⟩ := ownsRow_shape h
    exact ⟨0, ⟨heap_alloc_new w _, ⟨ao, c, rfl, fun h => absurd rfl h⟩, fun j x hj => by simp at hj, by omega, by omega, hl⟩, hz, fun h => absurd rfl h⟩
  · obtain ⟨g, cap, rfl, _⟩ := ownsRow_some h (List.length_pos_iff.2 hL)
    have hg := h.lt g rfl
    exact ⟨g, ⟨heap_alloc_new w _, ⟨_, cap, rfl, fun _ => rfl⟩, (ownsRow_tokat77 h).chg hA (fun e => e), by omega, by omega, hl⟩, hg.2, fun _ => hg.1⟩
/-- What both results' boxes hold at the end. -/
theorem out5 {X : World} {B : Nat} {x y z p q : Value} (hb : X.heap[B]? = some (.cells #[x, y, z] 37 (0, 0))) (hb1 : X.heap[B + 1]? = some (.cells #[p, q] 39 (0, 0))) (a0 a1 a2 m0 m1 : Value) :
    (((((X.setCell ⟨B, 0, none⟩ a0).setCell ⟨B, 1, none⟩ a1).setCell ⟨B, 2, none⟩ a2).setCell ⟨B + 1, 0, none⟩ m0).setCell ⟨B + 1, 1, none⟩ m1).heap[B]? = some (.cells #[a0, a1, a2] 37 (0, 0)) ∧
    (((((X.setCell ⟨B, 0, none⟩ a0).setCell ⟨B, 1, none⟩ a1).setCell ⟨B, 2, none⟩ a2).setCell ⟨B + 1, 0, none⟩ m0).setCell ⟨B + 1, 1, none⟩ m1).heap[B + 1]? = some (.cells #[m0, m1] 39 (0, 0)) ∧
    Chg (fun k => k = B ∨ k = B + 1) X (((((X.setCell ⟨B, 0, none⟩ a0).setCell ⟨B, 1, none⟩ a1).setCell ⟨B, 2, none⟩ a2).setCell ⟨B + 1, 0, none⟩ m0).setCell ⟨B + 1, 1, none⟩ m1) := by
  have k3 := chg_three X B a0 a1 a2
  have k2 : Chg (At1 (B + 1)) (((X.setCell ⟨B, 0, none⟩ a0).setCell ⟨B, 1, none⟩ a1).setCell ⟨B, 2, none⟩ a2) (((((X.setCell ⟨B, 0, none⟩ a0).setCell ⟨B, 1, none⟩ a1).setCell ⟨B, 2, none⟩ a2).setCell ⟨B + 1, 0, none⟩ m0).setCell ⟨B + 1, 1, none⟩ m1) := ((Chg.refl (At1 (B + 1)) _).setCell (p := ⟨B + 1, 0, none⟩) (fun _ => rfl) _).setCell (p := ⟨B + 1, 1, none⟩) (fun _ => rfl) _
  refine ⟨k2.at (block_three_all hb a0 a1 a2) (fun e => by have e : B = B + 1 := e; omega), block_two_set1 (block_two_set0 (k3.at hb1 (fun e => by have e : B + 1 = B := e; omega))), (k3.mono (fun _ _ e => .inl e)).trans k2 (fun _ _ e => .inr e)⟩
theorem fin24 {s : List UInt8} {w X : World} {tm : Array Value} {x y z p q a0 a1 a2 m0 m1 : Value} {r : Res} (hc : Chg Nob w X) (hb : X.heap[w.heap.size]? = some (.cells #[x, y, z] 37 (0, 0))) (hb1 : X.heap[w.heap.size + 1]? = some (.cells #[p, q] 39 (0, 0)))
    (hp : PR s r) (hr : ∀ Y, Chg (fun k => k = w.heap.size ∨ k = w.heap.size + 1) X Y → ParseEnd w.heap.size Y (.returned (.tuple #[.agg #[a0, a1, a2], .agg #[m0, m1]])) r)
    (h2 : tm[2]? = some (.pointer (some ⟨w.heap.size, 0, none⟩))) (h3 : tm[3]? = some (.pointer (some ⟨w.heap.size + 1, 0, none⟩))) :
    bodyPost Try.prog Try.f24 (ParsePost s w) Exit.ret { tmps := tm, defers := [] } (((((X.setCell ⟨w.heap.size, 0, none⟩ a0).setCell ⟨w.heap.size, 1, none⟩ a1).setCell ⟨w.heap.size, 2, none⟩ a2).setCell ⟨w.heap.size + 1, 0, none⟩ m0).setCell ⟨w.heap.size + 1, 1, none⟩ m1) := by
  obtain ⟨e1, e2, e3⟩ := out5 hb hb1 a0 a1 a2 m0 m1
  exact bodyPost_ret (results24 h2 h3 e1 e2) rfl ⟨hc.trans e3 (fun i hi e => by rcases e with e | e <;> omega), r, hp, hr _ e3⟩
theorem fin24d {s : List UInt8} {w X : World} {tm : Array Value} {x y z p q a0 a1 a2 m0 m1 : Value} {r : Res} (hc : Chg Nob w X) (hb : X.heap[w.heap.size]? = some (.cells #[x, y, z] 37 (0, 0))) (hb1 : X.heap[w.heap.size + 1]? = some (.cells #[p, q] 39 (0, 0)))
    (hp : PR s r) (hr : ∀ Y, Chg (fun k => k = w.heap.size ∨ k = w.heap.size + 1) X Y → ParseEnd w.heap.size Y (.returned (.tuple #[.agg #[a0, a1, a2], .agg #[m0, m1]])) r)
    (h2 : tm[2]? = some (.pointer (some ⟨w.heap.size, 0, none⟩))) (h3 : tm[3]? = some (.pointer (some ⟨w.heap.size + 1, 0, none⟩))) :
    bodyPost Try.prog Try.f24 (ParsePost s w) Exit.ret { tmps := tm, defers := [] } (((((X.setCell ⟨w.heap.size, 0, none⟩ a0).setCell ⟨w.heap.size, 1, none⟩ a1).setCell ⟨w.heap.size, 2, none⟩ a2).setCell ⟨w.heap.size + 1, 0, none⟩ m0).setCell ⟨w.heap.size + 1, 1, none⟩ m1).drew := by
  obtain ⟨e1, e2, e3⟩ := out5 hb hb1 a0 a1 a2 m0 m1
  generalize ((((X.setCell ⟨w.heap.size, 0, none⟩ a0).setCell ⟨w.heap.size, 1, none⟩ a1).setCell ⟨w.heap.size, 2, none⟩ a2).setCell ⟨w.heap.size + 1, 0, none⟩ m0).setCell ⟨w.heap.size + 1, 1, none⟩ m1 = Y at *
  exact bodyPost_ret (results24 h2 h3 e1 e2) rfl ⟨(hc.trans e3 (fun i hi e => by rcases e with e | e <;> omega)).drew, r, hp, hr _ e3.drew⟩
theorem mm_last {L : List Tok} {N j : Nat} {y : Tok} (h : (MM L N)[j]? = some y) (hj : L.length ≤ j) : wrongAt y = (91, N) := by
  unfold MM at h
  rw [List.getElem?_append_right hj] at h
  have : j - L.length < 1 := (List.getElem?_eq_some_iff.1 h).1
  rw [show j - L.length = 0 by omega] at h
  obtain rfl : ([], N) = y := by simpa using h
  rfl
theorem mm_in {L : List Tok} {N j : Nat} {y : Tok} (hne : ∀ x ∈ L, x.1 ≠ []) (h : (MM L N)[j]? = some y) (hj : j < L.length) : wrongAt y = (92, y.2) ∧ L[j]? = some y := by
  unfold MM at h
  rw [List.getElem?_append_left hj] at h
  exact ⟨by unfold wrongAt; rw [if_neg (hne y (List.mem_of_getElem? h))], h⟩

set_option maxRecDepth 100000 in
set_option maxHeartbeats 8000000 in
theorem RParse_any (s : List UInt8) (w : World) : Calls Try.prog 24 #[.string ⟨s.toArray⟩] w (ParsePost s w) := by
  have hsz : (⟨s.toArray⟩ : ByteArray).size = s.length := by show s.toArray.size = _; simp
  have hW : Hid (∃ W, W = (w.alloc (.cells #[.int .i64 0, .string ⟨#[]⟩, .slice none 0 0] 37)).alloc (.cells #[.int .i64 0, .int .i64 0] 39) ∧ Chg Nob w W ∧ W.heap.size = w.heap.size + 2 ∧ W.heap[w.heap.size]? = some (.cells #[.int .i64 0, .string ⟨#[]⟩, .slice none 0 0] 37 (0, 0)) ∧ W.heap[w.heap.size + 1]? = some (.cells #[.int .i64 0, .int .i64 0] 39 (0, 0))) := by
    refine ⟨_, rfl, ((Chg.refl _ _).alloc _).alloc _, by rw [World.size_alloc, World.size_alloc], ((Chg.refl Nob _).alloc _).at (heap_alloc_new w _) (fun e => e), ?_⟩
    have := heap_alloc_new (w.alloc (.cells #[.int .i64 0, .string ⟨#[]⟩, .slice none 0 0] 37)) (.cells #[.int .i64 0, .int .i64 0] 39)
    rwa [World.size_alloc] at this
  obtain ⟨W, hWe, hc, hs, hb, hb1⟩ := hW.out
  have HWe := Lib.hid hWe
  have Hc := Lib.hid hc
  have Hs := Lib.hid hs
  have Hb := Lib.hid hb
  have Hb1 := Lib.hid hb1
  clear hW hWe hc hs hb hb1
  by_cases hlong : 4096 < s.length
  · have hl : (4096 : Int) < (s.length : Int) := by omega
    have Hlong := Lib.hid hlong
    go_enter Try.func24, Try.ntmps24
    go_wp2
    have e1 := ((Chg.refl Nob _).alloc (.cells #[.int .i64 2, .int .i64 0] 39)).at (heap_alloc_new w (.cells #[.int .i64 0, .string ⟨#[]⟩, .slice none 0 0] 37)) (fun e => e)
    have e2 := heap_alloc_new (w.alloc (.cells #[.int .i64 0, .string ⟨#[]⟩, .slice none 0 0] 37)) (.cells #[.int .i64 2, .int .i64 0] 39)
    rw [World.size_alloc] at e2
    exact bodyPost_ret (results24 (B := w.heap.size) rfl rfl e1 e2) rfl ⟨((Chg.refl _ _).alloc _).alloc _, _, PR.long Hlong.out, rfl⟩
  · have hl : ¬ (4096 : Int) < (s.length : Int) := by omega
    have Hlen : Hid (s.length ≤ 4096) := (show s.length ≤ 4096 by omega)
    have htk := rtokens_any s W (by omega)
    go_enter Try.func24, Try.ntmps24
    go_wp2_with fail
    rw [← HWe.out]
    (with_reducible refine htk.mono ?_)
    clear htk
    rintro e w1 ⟨hc1, ⟨L, v, htok, rfl, hrow⟩ | ⟨p, htok, rfl⟩⟩
    · have hLl : L.length ≤ s.length := toksF_count _ _ _ _ htok
      obtain ⟨g, hP, hg, hgb⟩ := pz_start hrow (by have := Hlen.out; omega) (by have := hc1.size; have := Hs.out; omega)
      obtain ⟨ao0, cap0, rfl⟩ := ownsRow_shape hrow
      have hP : Hid (Pz _ _ _ _ _ _ _) := hP
      have Hgb : Hid (L ≠ [] → g ≠ w.heap.size) := (show L ≠ [] → g ≠ w.heap.size from fun h => by have := hgb h; have := Hs.out; omega)
      have Htok := Lib.hid htok
      have HLl := Lib.hid hLl
      have hcall := formula_any (N := s.length) (Nat.zero_le _) 0 _ rfl hP.out
      have Hcall := Lib.hid hcall
      have hA : Chg Nob w1 (w1.alloc (.cells #[.slice ao0 L.length cap0, .int .i64 0, .int .i64 (-1)] 74)) := (Chg.refl _ _).alloc _
      have Hb2 := Lib.hid ((hc1.trans1 hA).at Hb.out (fun e => e))
      have Hb12 := Lib.hid ((hc1.trans1 hA).at Hb1.out (fun e => e))
      have Hc2 := Lib.hid (Hc.out.trans1 (hc1.trans1 hA))
      have Hs2 := Lib.hid (World.size_alloc w1 (.cells #[.slice ao0 L.length cap0, .int .i64 0, .int .i64 (-1)] 74))
      have Hs1 : Hid (w.heap.size + 2 ≤ w1.heap.size) := (show w.heap.size + 2 ≤ w1.heap.size by have := hc1.size; have := Hs.out; omega)
      clear hLl htok hcall hA hc1 hrow
      go_wp2_with fail
      generalize w1.alloc (.cells #[.slice ao0 L.length cap0, .int .i64 0, .int .i64 (-1)] 74) = w2 at *
      have hcall := Hcall.out
      (with_reducible refine hcall.mono ?_)
      clear hcall Hcall hP
      rintro e w3 ⟨hc3, out, k0, nm, ao, len, cap, a', hG, rfl, hR⟩
      generalize w1.heap.size = pb at *
      have hpb := Hs1.out
      have hA : Chg Nob w3 (w3.alloc (.cells #[.int .i64 k0, .string nm, .slice ao len cap] 37)) := (Chg.refl _ _).alloc _
      have hR4 := hR.chg hA (fun e => e) (fun e => e) (fun _ _ e => e) (Nat.le_refl _)
      have hc4 := (hc3.trans1 hA.any)
      have Hc4 := Lib.hid (Hc2.out.any.trans (S := Nob) (hc4.mono (S' := fun q => pb ≤ q) (fun i _ e => by have e : i = pb := e; omega)) (fun i hi e => by omega))
      have Hb4 := Lib.hid (hc4.at Hb2.out (fun e => by have e : w.heap.size = pb := e; omega))
      have Hb14 := Lib.hid (hc4.at Hb12.out (fun e => by have e : w.heap.size + 1 = pb := e; omega))
      have Ht4 := Lib.hid (heap_alloc_new w3 (.cells #[.int .i64 k0, .string nm, .slice ao len cap] 37))
      have hs3 := hc3.size
      have HT : Hid (pb < w3.heap.size) := (show pb < w3.heap.size by have := Hs2.out; omega)
      have HG : Hid (G (.lev 0) (MM L s.length) out) := hG
      clear hR hc3 hc4 hA hG hs3
      cases out with
      | err y =>
        obtain ⟨j, y, hj, rfl, hle, hP4⟩ := hR4
        have HP4 := Lib.hid hP4
        have Hj := Lib.hid hj
        have hji : ¬ (j : Int) < 0 := by omega
        have hji0 : (0 : Int) ≤ (j : Int) := by omega
        obtain ⟨c0, c1, c2, f0, f1, f2⟩ := cells_three hP4.box
        obtain ⟨ao2, cap2, hsl, hao2⟩ := hP4.sl
        cases hsl
        have Hao2 := Lib.hid hao2
        obtain ⟨d0, d1, d2, g0, g1, g2⟩ := cells_three Hb4.out
        obtain ⟨e0, e1, h0, h1⟩ := cell_two Hb14.out
        clear hj hP4 hle
        by_cases hjl : L.length ≤ j
        · have hjli : (L.length : Int) ≤ (j : Int) := by omega
          clear hao2
          have Hpr : Hid (PR s (.err (91, s.length))) := (show PR s (.err (91, s.length)) by
            have e := mm_last Hj.out hjl
            have := PR.gram Hlen.out Htok.out HG.out
            rwa [e] at this)
          go_wp2
          exact fin24 Hc4.out Hb4.out Hb14.out Hpr.out (fun _ _ => rfl) rfl rfl
        · have hjli : ¬ (L.length : Int) ≤ (j : Int) := by omega
          obtain rfl : ao0 = some ⟨g, 0, none⟩ := hao2 (by rintro rfl; exact hjl (Nat.zero_le _))
          clear hao2
          have Hpr : Hid (PR s (.err (92, y.2))) := (show PR s (.err (92, y.2)) by
            have e := mm_in (toksF_ne _ _ _ _ Htok.out) Hj.out (Nat.lt_of_not_le hjl)
            have := PR.gram Hlen.out Htok.out HG.out
            rwa [e.1] at this)
          have ht1 : (w3.alloc (.cells #[.int .i64 k0, .string nm, .slice ao len cap] 37)).cell? ⟨g, j * 2 + 1, none⟩ = some (.int .i64 (y.2 : Int)) := by
            have := (HP4.out.tok j y (mm_in (toksF_ne _ _ _ _ Htok.out) Hj.out (Nat.lt_of_not_le hjl)).2).2
            rwa [Nat.zero_add] at this
          have hjL : (j : Int) < (L.length : Int) := by omega
          go_wp2_with fail
          refine wp_region_free (fun q => q != 11) (fun w' => w'.cell? ⟨pb, 2, none⟩ = some (.int .i64 (j : Int)) ∧ w'.cell? ⟨g, j * 2 + 1, none⟩ = some (.int .i64 (y.2 : Int))) (by kernel_rfl) ⟨c2, ht1⟩ (fun hHeld => ?_)
          refine wpAnyG_take (i := 0) (v := ?_) rfl (by kernel_rfl) (fun _ _ _ h => h) (Or.inl ⟨by kernel_rfl, ?_⟩) hHeld ?_
          rotate_left
          · intro w' hSw; obtain ⟨d2, e2⟩ := hSw; go_simp; try (with_reducible rfl)
          simp only [Act.put, List.setIfInBounds_toArray]
          refine wpAnyG_take (i := 1) (v := ?_) rfl (by kernel_rfl) (fun _ _ _ h => h) (Or.inl ⟨by kernel_rfl, ?_⟩) hHeld ?_
          rotate_left
          · intro w' hSw; obtain ⟨d2, e2⟩ := hSw; go_simp; try (with_reducible rfl)
          simp only [Act.put]
          refine wpAnyG_take (i := 2) (v := ?_) rfl (by kernel_rfl) (fun _ _ _ h => h) (Or.inl ⟨by kernel_rfl, ?_⟩) hHeld ?_
          rotate_left
          · intro w' hSw; obtain ⟨d2, e2⟩ := hSw; go_simp; try (with_reducible rfl)
          simp only [Act.put]
          refine wpAnyG_take (i := 3) (v := ?_) rfl (by kernel_rfl) (fun _ _ _ h => h) (Or.inl ⟨by kernel_rfl, ?_⟩) hHeld ?_
          rotate_left
          · intro w' hSw; obtain ⟨d2, e2⟩ := hSw; go_simp; try (with_reducible rfl)
          simp only [Act.put]
          refine wpAnyG_take (i := 4) (v := ?_) rfl (by kernel_rfl) (fun _ _ _ h => h) (Or.inl ⟨by kernel_rfl, ?_⟩) hHeld ?_
          rotate_left
          · intro w' hSw; obtain ⟨d2, e2⟩ := hSw; go_simp; try (with_reducible rfl)
          simp only [Act.put]
          refine wpAnyG_take (i := 5) (v := ?_) rfl (by kernel_rfl) (fun _ _ _ h => h) (Or.inl ⟨by kernel_rfl, ?_⟩) hHeld ?_
          rotate_left
          · intro w' hSw; obtain ⟨d2, e2⟩ := hSw; go_simp; try (with_reducible rfl)
          simp only [Act.put]
          refine wpAnyG_take (i := 6) (v := ?_) rfl (by kernel_rfl) (fun _ _ _ h => h) (Or.inl ⟨by kernel_rfl, ?_⟩) hHeld ?_
          rotate_left
          · intro w' hSw; obtain ⟨d2, e2⟩ := hSw; go_simp; try (with_reducible rfl)
          simp only [Act.put]
          refine wpAnyG_take (i := 7) (v := ?_) rfl (by kernel_rfl) (fun _ _ _ h => h) (Or.inl ⟨by kernel_rfl, ?_⟩) hHeld ?_
          rotate_left
          · intro w' hSw; obtain ⟨d2, e2⟩ := hSw; go_simp; try (with_reducible rfl)
          simp only [Act.put]
          refine wpAnyG_take (i := 8) (v := ?_) rfl (by kernel_rfl) (fun _ _ _ h => h) (Or.inl ⟨by kernel_rfl, ?_⟩) hHeld ?_
          rotate_left
          · intro w' hSw; obtain ⟨d2, e2⟩ := hSw; go_simp; try (with_reducible rfl)
          simp only [Act.put]
          refine wpAnyG_take (i := 9) (v := ?_) rfl (by kernel_rfl) (fun _ _ _ h => h) (Or.inl ⟨by kernel_rfl, ?_⟩) hHeld ?_
          rotate_left
          · intro w' hSw; obtain ⟨d2, e2⟩ := hSw; go_simp; try (with_reducible rfl)
          simp only [Act.put]
          have k10 := chg_three (w3.alloc (.cells #[.int .i64 k0, .string nm, .slice ao len cap] 37)).drew w.heap.size (.int .i64 0) (.string ⟨#[]⟩) (.slice none 0 0)
          have s10 := And.intro (k10.cell' hHeld.1 (fun e => by have e : pb = w.heap.size := e; omega)) (k10.cell' hHeld.2 (fun e => by have e : g = w.heap.size := e; exact Hgb.out (by rintro rfl; exact hjl (Nat.zero_le _)) e))
          refine wpAnyG_ready (rs := [10]) (by kernel_rfl) (by simp) ?_
          refine AllReadyG.cons rfl (fun K hK => ?_) AllReadyG.nil
          go_simp
          refine hK.out _ _ (fun _ => s10) ?_
          clear K hK s10 k10
          refine wpAnyG_ready (rs := [11]) (by kernel_rfl) (by simp) ?_
          refine AllReadyG.cons rfl (fun K hK => ?_) AllReadyG.nil
          go_simp
          refine hK.out _ _ (fun h => by cases h) ?_
          clear K hK
          refine wpAnyG_done (by kernel_rfl) ?_ _
          go_wp2
          exact fin24d Hc4.out Hb4.out Hb14.out Hpr.out (fun _ _ => rfl) rfl rfl
      | ok t rest =>
        obtain ⟨hle, rfl, hF4, hP4⟩ := hR4
        have HP4 := Lib.hid hP4
        have HF4 := Lib.hid hF4
        obtain ⟨c0, c1, c2, f0, f1, f2⟩ := cells_three hP4.box
        obtain ⟨ao2, cap2, hsl, hao2⟩ := hP4.sl
        cases hsl
        obtain ⟨d0, d1, d2, g0, g1, g2⟩ := cells_three Hb4.out
        obtain ⟨e0, e1, h0, h1⟩ := cell_two Hb14.out
        clear hP4 hF4
        by_cases hal : a' < L.length
        · have hali : (a' : Int) < (L.length : Int) := by omega
          obtain rfl : ao0 = some ⟨g, 0, none⟩ := hao2 (by rintro rfl; exact absurd hal (Nat.not_lt_zero _))
          clear hao2
          have hfail := fail_any HP4.out
          have hc5 : Chg (At1 pb) (w3.alloc (.cells #[.int .i64 k0, .string nm, .slice ao len cap] 37)) ((w3.alloc (.cells #[.int .i64 k0, .string nm, .slice ao len cap] 37)).setCell ⟨pb, 2, none⟩ (.int .i64 (a' : Int))) := ((Chg.refl (At1 pb) _).setCell (p := ⟨pb, 2, none⟩) (fun _ => rfl) _)
          have HP5 := Lib.hid (HP4.out.setBad (a' : Int))
          have Hc5 := Lib.hid (Hc4.out.any.trans (S := Nob) (hc5.mono (S' := fun q => pb ≤ q) (fun i _ e => by have e : i = pb := e; omega)) (fun i hi e => by omega))
          have Hb5 := Lib.hid (hc5.at Hb4.out (fun e => by have e : w.heap.size = pb := e; omega))
          have Hb15 := Lib.hid (hc5.at Hb14.out (fun e => by have e : w.heap.size + 1 = pb := e; omega))
          clear hc5 HP4 HF4
          go_wp2_with fail
          (with_reducible refine hfail.mono ?_)
          clear hfail c0 c1 c2 f0 f1 f2 d0 d1 d2 g0 g1 g2 e0 e1 h0 h1 Hc4 Hb4 Hb14
          rintro e w5 ⟨rfl, rfl⟩
          generalize (w3.alloc (.cells #[.int .i64 k0, .string nm, .slice ao len cap] 37)).setCell ⟨pb, 2, none⟩ (.int .i64 (a' : Int)) = w5 at *
          obtain ⟨c0, c1, c2, f0, f1, f2⟩ := cells_three HP5.out.box
          obtain ⟨d0, d1, d2, g0, g1, g2⟩ := cells_three Hb5.out
          obtain ⟨e0, e1, h0, h1⟩ := cell_two Hb15.out
          have hji : ¬ (L.length : Int) ≤ (a' : Int) := by omega
          have hji0 : (0 : Int) ≤ (a' : Int) := by omega
          obtain ⟨y, hy⟩ : ∃ y, L[a']? = some y := ⟨_, List.getElem?_eq_getElem hal⟩
          have Hpr : Hid (PR s (.err (92, y.2))) := (show PR s (.err (92, y.2)) by
            have hd : (MM L s.length).drop a' = y :: (MM L s.length).drop (a' + 1) := drop_at' (by unfold MM; rw [List.getElem?_append_left hal]; exact hy)
            have hG := HG.out
            rw [hd] at hG
            exact PR.more Hlen.out Htok.out hG (toksF_ne _ _ _ _ Htok.out y (List.mem_of_getElem? hy)))
          have ht1 : w5.cell? ⟨g, a' * 2 + 1, none⟩ = some (.int .i64 (y.2 : Int)) := by
            have := (HP5.out.tok a' y hy).2
            rwa [Nat.zero_add] at this
          have hjL : (a' : Int) < (L.length : Int) := by omega
          go_wp2_with fail
          refine wp_region_free (fun q => q != 11) (fun w' => w'.cell? ⟨pb, 2, none⟩ = some (.int .i64 (a' : Int)) ∧ w'.cell? ⟨g, a' * 2 + 1, none⟩ = some (.int .i64 (y.2 : Int))) (by kernel_rfl) ⟨c2, ht1⟩ (fun hHeld => ?_)
          refine wpAnyG_take (i := 0) (v := ?_) rfl (by kernel_rfl) (fun _ _ _ h => h) (Or.inl ⟨by kernel_rfl, ?_⟩) hHeld ?_
          rotate_left
          · intro w' hSw; obtain ⟨d2, e2⟩ := hSw; go_simp; try (with_reducible rfl)
          simp only [Act.put, List.setIfInBounds_toArray]
          refine wpAnyG_take (i := 1) (v := ?_) rfl (by kernel_rfl) (fun _ _ _ h => h) (Or.inl ⟨by kernel_rfl, ?_⟩) hHeld ?_
          rotate_left
          · intro w' hSw; obtain ⟨d2, e2⟩ := hSw; go_simp; try (with_reducible rfl)
          simp only [Act.put]
          refine wpAnyG_take (i := 2) (v := ?_) rfl (by kernel_rfl) (fun _ _ _ h => h) (Or.inl ⟨by kernel_rfl, ?_⟩) hHeld ?_
          rotate_left
          · intro w' hSw; obtain ⟨d2, e2⟩ := hSw; go_simp; try (with_reducible rfl)
          simp only [Act.put]
          refine wpAnyG_take (i := 3) (v := ?_) rfl (by kernel_rfl) (fun _ _ _ h => h) (Or.inl ⟨by kernel_rfl, ?_⟩) hHeld ?_
          rotate_left
          · intro w' hSw; obtain ⟨d2, e2⟩ := hSw; go_simp; try (with_reducible rfl)
          simp only [Act.put]
          refine wpAnyG_take (i := 4) (v := ?_) rfl (by kernel_rfl) (fun _ _ _ h => h) (Or.inl ⟨by kernel_rfl, ?_⟩) hHeld ?_
          rotate_left
          · intro w' hSw; obtain ⟨d2, e2⟩ := hSw; go_simp; try (with_reducible rfl)
          simp only [Act.put]
          refine wpAnyG_take (i := 5) (v := ?_) rfl (by kernel_rfl) (fun _ _ _ h => h) (Or.inl ⟨by kernel_rfl, ?_⟩) hHeld ?_
          rotate_left
          · intro w' hSw; obtain ⟨d2, e2⟩ := hSw; go_simp; try (with_reducible rfl)
          simp only [Act.put]
          refine wpAnyG_take (i := 6) (v := ?_) rfl (by kernel_rfl) (fun _ _ _ h => h) (Or.inl ⟨by kernel_rfl, ?_⟩) hHeld ?_
          rotate_left
          · intro w' hSw; obtain ⟨d2, e2⟩ := hSw; go_simp; try (with_reducible rfl)
          simp only [Act.put]
          refine wpAnyG_take (i := 7) (v := ?_) rfl (by kernel_rfl) (fun _ _ _ h => h) (Or.inl ⟨by kernel_rfl, ?_⟩) hHeld ?_
          rotate_left
          · intro w' hSw; obtain ⟨d2, e2⟩ := hSw; go_simp; try (with_reducible rfl)
          simp only [Act.put]
          refine wpAnyG_take (i := 8) (v := ?_) rfl (by kernel_rfl) (fun _ _ _ h => h) (Or.inl ⟨by kernel_rfl, ?_⟩) hHeld ?_
          rotate_left
          · intro w' hSw; obtain ⟨d2, e2⟩ := hSw; go_simp; try (with_reducible rfl)
          simp only [Act.put]
          refine wpAnyG_take (i := 9) (v := ?_) rfl (by kernel_rfl) (fun _ _ _ h => h) (Or.inl ⟨by kernel_rfl, ?_⟩) hHeld ?_
          rotate_left
          · intro w' hSw; obtain ⟨d2, e2⟩ := hSw; go_simp; try (with_reducible rfl)
          simp only [Act.put]
          have k10 := chg_three w5.drew w.heap.size (.int .i64 0) (.string ⟨#[]⟩) (.slice none 0 0)
          have s10 := And.intro (k10.cell' hHeld.1 (fun e => by have e : pb = w.heap.size := e; omega)) (k10.cell' hHeld.2 (fun e => by have e : g = w.heap.size := e; exact Hgb.out (by rintro rfl; exact absurd hal (Nat.not_lt_zero _)) e))
          refine wpAnyG_ready (rs := [10]) (by kernel_rfl) (by simp) ?_
          refine AllReadyG.cons rfl (fun K hK => ?_) AllReadyG.nil
          go_simp
          refine hK.out _ _ (fun _ => s10) ?_
          clear K hK s10 k10
          refine wpAnyG_ready (rs := [11]) (by kernel_rfl) (by simp) ?_
          refine AllReadyG.cons rfl (fun K hK => ?_) AllReadyG.nil
          go_simp
          refine hK.out _ _ (fun h => by cases h) ?_
          clear K hK
          refine wpAnyG_done (by kernel_rfl) ?_ _
          go_wp2
          exact fin24d Hc5.out Hb5.out Hb15.out Hpr.out (fun _ _ => rfl) rfl rfl
        · obtain rfl : a' = L.length := by omega
          have hali : ¬ (L.length : Int) < (L.length : Int) := by omega
          have hli : ¬ (L.length : Int) ≤ (-1 : Int) := by omega
          have hd : (MM L s.length).drop L.length = [([], s.length)] := by
            unfold MM
            rw [List.drop_left]
          have hsz := G_lev_size HG.out
          rw [hd] at hsz
          simp only [MM, List.length_append, List.length_cons, List.length_nil] at hsz
          have hsz2 : sizeT t ≤ 5000 := by have := HLl.out; have := Hlen.out; omega
          have HGd : Hid (G (.lev 0) (MM L s.length) (.ok t [([], s.length)])) := (show G (.lev 0) (MM L s.length) (.ok t [([], s.length)]) by have := HG.out; rwa [hd] at this)
          have hdep := depth_any (fun b => pb + 1 ≤ b ∧ b < (w3.alloc (.cells #[.int .i64 k0, .string nm, .slice ao len cap] 37)).heap.size) 5000 t hsz2 (by omega) _ _ (by rw [Hs2.out] at HF4; exact HF4.out.tree)
          have HD := Lib.hid hdep
          have Hle : Hid (pb + 1 = w2.heap.size) := Hs2.out.symm
          clear hd hsz hsz2 hao2 hdep
          obtain ⟨t0, t1, t2, _⟩ := cells_three Ht4.out
          go_wp2_with fail
          have hdep := HD.out
          (with_reducible refine hdep.mono ?_)
          clear hdep HD t0 t1 t2 c0 c1 c2 f0 f1 f2 d0 d1 d2 g0 g1 g2 e0 e1 h0 h1
          rintro e w5 ⟨rfl, hc5⟩
          have Hc5 := Lib.hid (Hc4.out.trans1 hc5)
          have Hb5 := Lib.hid (hc5.at Hb4.out (fun e => e))
          have Hb15 := Lib.hid (hc5.at Hb14.out (fun e => e))
          have HF5 := Lib.hid (HF4.out.chg hc5 (fun _ _ _ e => e) (fun _ h => h))
          obtain ⟨t0, t1, t2, _⟩ := cells_three (hc5.at Ht4.out (fun e => e))
          obtain ⟨d0, d1, d2, g0, g1, g2⟩ := cells_three Hb5.out
          obtain ⟨e0, e1, h0, h1⟩ := cell_two Hb15.out
          have hBt : w.heap.size + 1 < w3.heap.size := by have := HT.out; omega
          clear hc5 HF4
          by_cases hdp : 100 < depthT t
          · have hdi : (100 : Int) < (depthT t : Int) := by omega
            have Hpr : Hid (PR s (.err (93, 0))) := PR.deep Hlen.out Htok.out HGd.out rfl hdp
            clear hdp
            go_wp2
            exact fin24 Hc5.out Hb5.out Hb15.out Hpr.out (fun _ _ => rfl) rfl rfl
          · have hdi : ¬ (100 : Int) < (depthT t : Int) := by omega
            have Hpr : Hid (PR s (.ok t)) := PR.ok Hlen.out Htok.out HGd.out rfl (by omega)
            clear hdp
            go_wp2
            exact fin24 Hc5.out Hb5.out Hb15.out Hpr.out (fun Y hY => ⟨_, HF5.out.chg hY (fun b hb _ e => by unfold Ge at hb; have := Hle.out; rcases e with e | e <;> omega) (fun b hb => by unfold Ge at hb ⊢; have := Hle.out; omega), rfl⟩) rfl rfl
    · have Htok := Lib.hid htok
      have Hb' := Lib.hid (hc1.at Hb.out (fun e => e))
      have Hb1' := Lib.hid (hc1.at Hb1.out (fun e => e))
      have Hc' := Lib.hid (Hc.out.trans1 hc1)
      clear htok hc1
      obtain ⟨c0, c1, c2, f0, f1, f2⟩ := cells_three Hb'.out
      obtain ⟨d0, d1, g0, g1⟩ := cell_two Hb1'.out
      have hp0 : (0 : Int) ≤ (p : Int) := by omega
      go_wp2
      exact fin24 Hc'.out Hb'.out Hb1'.out (PR.token Hlen.out Htok.out) (fun _ _ => rfl) rfl rfl
end Go.Proofs.Ytkgfdgfhpdhhaaa
