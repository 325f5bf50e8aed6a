/- The law's small helpers; what is known of two formulas on one word. No condition. -/
import Derived.Test.YtkgfdgfhpdhhaaaTabj
import Derived.Test.YtkgfdgfhpdhhaaaLsame
namespace Go.Proofs.Ytkgfdgfhpdhhaaa
open Go.ChangeShapes Go.WideShapes Go.RowKit Go.Shelf

attribute [local go_sem] Oper.semAt_some

theorem results43 {rb : Nat} {tm : Array Value} {w : World} {x y z : Value} (h2 : tm[2]? = some (.pointer (some ⟨rb, 0, none⟩))) (hb : w.heap[rb]? = some (.cells #[x, y, z] 37 (0, 0))) :
    (results Try.f43 tm).run Try.prog w = .ok (.agg #[x, y, z]) w := by
  obtain ⟨c0, c1, c2, _⟩ := cells_three hb
  simp [results, Try.results43, go_sem, h2, c0, c1, c2]
theorem results42 {rb : Nat} {tm : Array Value} {w : World} {x y z : Value} (h2 : tm[4]? = some (.pointer (some ⟨rb, 0, none⟩))) (hb : w.heap[rb]? = some (.cells #[x, y, z] 37 (0, 0))) :
    (results Try.f42 tm).run Try.prog w = .ok (.agg #[x, y, z]) w := by
  obtain ⟨c0, c1, c2, _⟩ := cells_three hb
  simp [results, Try.results42, go_sem, h2, c0, c1, c2]
set_option maxRecDepth 100000 in
set_option maxHeartbeats 2000000 in
theorem prop_any (x : List UInt8) (w : World) : Calls Try.prog 43 #[.string ⟨x.toArray⟩] w fun e w' => e = .returned (.agg #[.int .i64 3, .string ⟨x.toArray⟩, .slice none 0 0]) ∧ Chg Nob w w' := by
  have hb := heap_alloc_new w (.cells #[.int .i64 3, .string ⟨x.toArray⟩, .slice none 0 0] 37)
  go_enter Try.func43, Try.ntmps43
  go_wp2_with fail
  exact bodyPost_ret (results43 rfl hb) rfl ⟨rfl, (Chg.refl _ _).alloc _⟩
set_option maxRecDepth 100000 in
set_option maxHeartbeats 2000000 in
theorem of_any (k : Int) (ao : Option Addr) (n c : Nat) (w : World) : Calls Try.prog 42 #[.int .i64 k, .slice ao n c] w fun e w' => e = .returned (.agg #[.int .i64 k, .string ⟨#[]⟩, .slice ao n c]) ∧ Chg Nob w w' := by
  have hb := heap_alloc_new w (.cells #[.int .i64 k, .string ⟨#[]⟩, .slice ao n c] 37)
  go_enter Try.func42, Try.ntmps42
  go_wp2_with fail
  exact bodyPost_ret (results42 rfl hb) rfl ⟨rfl, (Chg.refl _ _).alloc _⟩
def nP : T := .node 3 [112] []
def nQ : T := .node 3 [113] []
def tU : T := .node 12 [] [nP, nQ]
def tA : T := .node 6 [] [nP]
theorem check_U : checkN tU = 0 := by
  have h1 : mayT tU = true := by
    simp [tU, nP, nQ, mayT, mayL, okNode, kidsOf]
    decide
  have h2 : depthT tU = 2 := by simp [tU, nP, nQ, depthT, depthL]
  unfold checkN
  rw [h1, h2]; rfl
theorem check_A : checkN tA = 0 := by
  have h1 : mayT tA = true := by
    simp [tA, nP, mayT, mayL, okNode, kidsOf]
    decide
  have h2 : depthT tA = 2 := by simp [tA, nP, depthT, depthL]
  unfold checkN
  rw [h1, h2]; rfl
theorem size_U : sizeT tU = 3 := by simp [tU, nP, nQ, sizeT, sizeL]
theorem size_A : sizeT tA = 2 := by simp [tA, nP, sizeT, sizeL]
theorem names_U : namesT tU = [[112], [113]] := by
  have e : pnames (allT tU) = [[112], [113]] := by
    simp [tU, nP, nQ, allT, allL, pnames, T.kind, T.name]
  unfold namesT
  rw [e, List.mergeSort_of_pairwise (by decide)]
  decide
theorem names_A : namesT tA = [[112]] := by
  have e : pnames (allT tA) = [[112]] := by
    simp [tA, nP, allT, allL, pnames, T.kind, T.name]
  unfold namesT
  rw [e, List.mergeSort_of_pairwise (by decide)]
  decide
theorem checked_U : checkedN tU [[112], [113]] 2 1 = 0 := by
  unfold checkedN
  rw [check_U, size_U, names_U]
  decide
theorem checked_A : checkedN tA [[112], [113]] 2 1 = 0 := by
  unfold checkedN
  rw [check_A, size_A, names_A]
  decide
theorem row_U : (tabRow tU [[112], [113]] [1, 1] [2]).getD 0 false = true := by rfl
theorem row_A : (tabRow tA [[112], [113]] [1, 1] [2]).getD 0 false = false := by rfl
theorem tree_leaf {R : Nat → Prop} {W : World} (x : List UInt8) : IsTree R W (.node 3 x []) (.agg #[.int .i64 3, .string ⟨x.toArray⟩, .slice none 0 0]) := IsTree.of_parts (t := .node 3 x []) (Nat.zero_le _) (by rw [T.kids, IsKids]; trivial)
theorem tree_U {W : World} {g : Nat} (h : W.heap[g]? = some (.cells #[.int .i64 3, .string ⟨#[112]⟩, .slice none 0 0, .int .i64 3, .string ⟨#[113]⟩, .slice none 0 0] 37 (0, 0))) : IsTree (At1 g) W tU (.agg #[.int .i64 12, .string ⟨#[]⟩, .slice (some ⟨g, 0, none⟩) 2 2]) := by
  refine IsTree.of_parts (t := tU) (by decide) ?_
  unfold tU T.kids
  rw [IsKids, IsKids, IsKids]
  exact ⟨⟨g, 0, _, _, _, rfl, rfl, cell_row h 0 rfl, cell_row h 1 rfl, cell_row h 2 rfl, tree_leaf [112]⟩, ⟨g, 0, _, _, _, rfl, rfl, cell_row h 3 rfl, cell_row h 4 rfl, cell_row h 5 rfl, tree_leaf [113]⟩, trivial⟩
theorem tree_A {W : World} {g : Nat} (h : W.heap[g]? = some (.cells #[.int .i64 3, .string ⟨#[112]⟩, .slice none 0 0] 37 (0, 0))) : IsTree (At1 g) W tA (.agg #[.int .i64 6, .string ⟨#[]⟩, .slice (some ⟨g, 0, none⟩) 1 1]) := by
  refine IsTree.of_parts (t := tA) (by decide) ?_
  unfold tA T.kids
  rw [IsKids, IsKids]
  exact ⟨⟨g, 0, _, _, _, rfl, rfl, cell_row h 0 rfl, cell_row h 1 rfl, cell_row h 2 rfl, tree_leaf [112]⟩, trivial⟩
theorem boxes_known (w : World) : ∃ X, X = (((w.alloc (.cells #[.int .u64 1, .int .u64 1] 25)).alloc (.cells #[.int .u64 2] 25)).alloc (.cells #[.slice (some ⟨w.heap.size, 0, none⟩) 2 2, .slice (some ⟨w.heap.size + 1, 0, none⟩) 1 1] 24)).alloc (.cells #[.string ⟨#[112]⟩, .string ⟨#[113]⟩] 9) ∧ Chg Nob w X ∧
    URow X (some ⟨w.heap.size, 0, none⟩) [1, 1] ∧ URow X (some ⟨w.heap.size + 1, 0, none⟩) [2] ∧ X.heap[w.heap.size + 1 + 1]? = some (.cells #[.slice (some ⟨w.heap.size, 0, none⟩) 2 2, .slice (some ⟨w.heap.size + 1, 0, none⟩) 1 1] 24 (0, 0)) ∧ Texts X (.slice (some ⟨w.heap.size + 1 + 1 + 1, 0, none⟩) 2 2) [[112], [113]] := by
  obtain ⟨o1, ho1⟩ : ∃ o, o = Obj.cells #[.int .u64 1, .int .u64 1] 25 (0, 0) := ⟨_, rfl⟩
  obtain ⟨o2, ho2⟩ : ∃ o, o = Obj.cells #[.int .u64 2] 25 (0, 0) := ⟨_, rfl⟩
  obtain ⟨o3, ho3⟩ : ∃ o, o = Obj.cells #[.slice (some ⟨w.heap.size, 0, none⟩) 2 2, .slice (some ⟨w.heap.size + 1, 0, none⟩) 1 1] 24 (0, 0) := ⟨_, rfl⟩
  obtain ⟨o4, ho4⟩ : ∃ o, o = Obj.cells #[.string ⟨#[112]⟩, .string ⟨#[113]⟩] 9 (0, 0) := ⟨_, rfl⟩
  have h1 := heap_alloc_new w o1
  have h2 := heap_alloc_new (w.alloc o1) o2
  have h3 := heap_alloc_new ((w.alloc o1).alloc o2) o3
  have h4 := heap_alloc_new (((w.alloc o1).alloc o2).alloc o3) o4
  rw [World.size_alloc] at h2
  rw [World.size_alloc, World.size_alloc] at h3
  rw [World.size_alloc, World.size_alloc, World.size_alloc] at h4
  have g1 := ((((Chg.refl Nob _).alloc o2).alloc o3).alloc o4).at h1 (fun e => e)
  have g2 := (((Chg.refl Nob _).alloc o3).alloc o4).at h2 (fun e => e)
  have g3 := ((Chg.refl Nob _).alloc o4).at h3 (fun e => e)
  rw [← ho1, ← ho2, ← ho3, ← ho4]
  obtain ⟨X, hX⟩ : ∃ X, X = (((w.alloc o1).alloc o2).alloc o3).alloc o4 := ⟨_, rfl⟩
  have hc : Chg Nob w X := by rw [hX]; exact ((((Chg.refl _ _).alloc _).alloc _).alloc _).alloc _
  rw [← hX] at g1 g2 g3 h4
  subst ho1 ho2 ho3 ho4
  refine ⟨X, hX, hc, ?_, ?_, g3, ?_⟩
  · intro j x hj
    refine ⟨_, rfl, ?_⟩
    rw [Go.WideShapes.add_plain, Nat.zero_add]
    match j, hj with
    | 0, hj => cases hj; exact cell_row g1 0 rfl
    | 1, hj => cases hj; exact cell_row g1 1 rfl
    | j + 2, hj => simp at hj
  · intro j x hj
    refine ⟨_, rfl, ?_⟩
    rw [Go.WideShapes.add_plain, Nat.zero_add]
    match j, hj with
    | 0, hj => cases hj; exact cell_row g2 0 rfl
    | j + 1, hj => simp at hj
  · refine ⟨_, _, rfl, by decide, fun j x hj => ⟨_, _, rfl, ?_⟩⟩
    rw [Nat.zero_add]
    match j, hj with
    | 0, hj => cases hj; exact cell_row h4 0 rfl
    | 1, hj => cases hj; exact cell_row h4 1 rfl
    | j + 2, hj => simp at hj
set_option maxRecDepth 100000 in
set_option maxHeartbeats 8000000 in
theorem known_lasso (w : World) : Calls Try.prog 12 #[] w fun e w' => e = .returned (.bool true) ∧ Chg Nob w w' := by
  obtain ⟨X, hX, hcX, hP, hL, hb, hT⟩ := boxes_known w
  have HcX := Lib.hid hcX
  have HP := Lib.hid hP
  have HL := Lib.hid hL
  have HT := Lib.hid hT
  have HHU : Hid (∀ (W : World) (g : Nat), Chg Nob X W → g < W.heap.size → W.heap[g]? = some (.cells #[.int .i64 3, .string ⟨#[112]⟩, .slice none 0 0, .int .i64 3, .string ⟨#[113]⟩, .slice none 0 0] 37 (0, 0)) → ∀ V, Chg Nob W V → Calls Try.prog 41 #[.agg #[.int .i64 12, .string ⟨#[]⟩, .slice (some ⟨g, 0, none⟩) 2 2], .slice (some ⟨w.heap.size + 1 + 1 + 1, 0, none⟩) 2 2, .agg #[.slice (some ⟨w.heap.size, 0, none⟩) 2 2, .slice (some ⟨w.heap.size + 1, 0, none⟩) 1 1]] V fun e w' => e = .returned (.tuple #[.bool true, .int .i64 0]) ∧ Chg Nob V w') :=
    (show ∀ (W : World) (g : Nat), Chg Nob X W → g < W.heap.size → W.heap[g]? = some (.cells #[.int .i64 3, .string ⟨#[112]⟩, .slice none 0 0, .int .i64 3, .string ⟨#[113]⟩, .slice none 0 0] 37 (0, 0)) → ∀ V, Chg Nob W V → Calls Try.prog 41 #[.agg #[.int .i64 12, .string ⟨#[]⟩, .slice (some ⟨g, 0, none⟩) 2 2], .slice (some ⟨w.heap.size + 1 + 1 + 1, 0, none⟩) 2 2, .agg #[.slice (some ⟨w.heap.size, 0, none⟩) 2 2, .slice (some ⟨w.heap.size + 1, 0, none⟩) 1 1]] V fun e w' => e = .returned (.tuple #[.bool true, .int .i64 0]) ∧ Chg Nob V w' from fun W g hcW hg hh V hV => by
      refine (holds_any (t := tU) (R := At1 g) (names := [[112], [113]]) (P := [1, 1]) (L := [2]) ((tree_U hh).nob hV) (by rw [size_U]; decide) (fun b hb => by have hb : b = g := hb; have := hV.size; omega) (HT.out.nob (hcW.trans1 hV)) (by decide) (by decide) (HP.out.nob (hcW.trans1 hV)) (HL.out.nob (hcW.trans1 hV)) (fun h => by cases h) (fun h => by cases h)).mono ?_
      rintro e w' ⟨hc, rfl⟩
      refine ⟨?_, hc⟩
      rw [row_U, show ([1, 1] : List Int).length = 2 from rfl, show ([2] : List Int).length = 1 from rfl, checked_U]; rfl)
  have HHA : Hid (∀ (W : World) (g : Nat), Chg Nob X W → g < W.heap.size → W.heap[g]? = some (.cells #[.int .i64 3, .string ⟨#[112]⟩, .slice none 0 0] 37 (0, 0)) → ∀ V, Chg Nob W V → Calls Try.prog 41 #[.agg #[.int .i64 6, .string ⟨#[]⟩, .slice (some ⟨g, 0, none⟩) 1 1], .slice (some ⟨w.heap.size + 1 + 1 + 1, 0, none⟩) 2 2, .agg #[.slice (some ⟨w.heap.size, 0, none⟩) 2 2, .slice (some ⟨w.heap.size + 1, 0, none⟩) 1 1]] V fun e w' => e = .returned (.tuple #[.bool false, .int .i64 0]) ∧ Chg Nob V w') :=
    (show ∀ (W : World) (g : Nat), Chg Nob X W → g < W.heap.size → W.heap[g]? = some (.cells #[.int .i64 3, .string ⟨#[112]⟩, .slice none 0 0] 37 (0, 0)) → ∀ V, Chg Nob W V → Calls Try.prog 41 #[.agg #[.int .i64 6, .string ⟨#[]⟩, .slice (some ⟨g, 0, none⟩) 1 1], .slice (some ⟨w.heap.size + 1 + 1 + 1, 0, none⟩) 2 2, .agg #[.slice (some ⟨w.heap.size, 0, none⟩) 2 2, .slice (some ⟨w.heap.size + 1, 0, none⟩) 1 1]] V fun e w' => e = .returned (.tuple #[.bool false, .int .i64 0]) ∧ Chg Nob V w' from fun W g hcW hg hh V hV => by
      refine (holds_any (t := tA) (R := At1 g) (names := [[112], [113]]) (P := [1, 1]) (L := [2]) ((tree_A hh).nob hV) (by rw [size_A]; decide) (fun b hb => by have hb : b = g := hb; have := hV.size; omega) (HT.out.nob (hcW.trans1 hV)) (by decide) (by decide) (HP.out.nob (hcW.trans1 hV)) (HL.out.nob (hcW.trans1 hV)) (fun h => by cases h) (fun h => by cases h)).mono ?_
      rintro e w' ⟨hc, rfl⟩
      refine ⟨?_, hc⟩
      rw [row_A, show ([1, 1] : List Int).length = 2 from rfl, show ([2] : List Int).length = 1 from rfl, checked_A]; rfl)
  have Hck : Hid (∀ V, Chg Nob X V → Calls Try.prog 18 #[.agg #[.slice (some ⟨w.heap.size, 0, none⟩) 2 2, .slice (some ⟨w.heap.size + 1, 0, none⟩) 1 1]] V fun e w' => e = .returned (.int .i64 0) ∧ Chg Nob V w') :=
    (show ∀ V, Chg Nob X V → Calls Try.prog 18 #[.agg #[.slice (some ⟨w.heap.size, 0, none⟩) 2 2, .slice (some ⟨w.heap.size + 1, 0, none⟩) 1 1]] V fun e w' => e = .returned (.int .i64 0) ∧ Chg Nob V w' from fun V hV => lcheck_any 2 1 (by decide))
  have Hlt : Hid (∀ V, Chg Nob X V → Calls Try.prog 21 #[.agg #[.slice (some ⟨w.heap.size, 0, none⟩) 2 2, .slice (some ⟨w.heap.size + 1, 0, none⟩) 1 1], .int .u64 5] V fun e w' => e = .returned (.int .u64 2) ∧ Chg Nob V w') :=
    (show ∀ V, Chg Nob X V → Calls Try.prog 21 #[.agg #[.slice (some ⟨w.heap.size, 0, none⟩) 2 2, .slice (some ⟨w.heap.size + 1, 0, none⟩) 1 1], .int .u64 5] V fun e w' => e = .returned (.int .u64 2) ∧ Chg Nob V w' from fun V hV => by
      refine (lletter_any (P := [1, 1]) (L := [2]) (by decide) (HP.out.nob hV) (HL.out.nob hV) 5 (by decide)).mono ?_
      rintro e w' ⟨rfl, hc⟩
      exact ⟨rfl, hc⟩)
  have Hsm : Hid (∀ V, Chg Nob X V → Calls Try.prog 22 #[.agg #[.slice (some ⟨w.heap.size, 0, none⟩) 2 2, .slice (some ⟨w.heap.size + 1, 0, none⟩) 1 1], .agg #[.slice (some ⟨w.heap.size, 0, none⟩) 2 2, .slice (some ⟨w.heap.size + 1, 0, none⟩) 1 1]] V fun e w' => e = .returned (.bool true) ∧ Chg Nob V w') :=
    (show ∀ V, Chg Nob X V → Calls Try.prog 22 #[.agg #[.slice (some ⟨w.heap.size, 0, none⟩) 2 2, .slice (some ⟨w.heap.size + 1, 0, none⟩) 1 1], .agg #[.slice (some ⟨w.heap.size, 0, none⟩) 2 2, .slice (some ⟨w.heap.size + 1, 0, none⟩) 1 1]] V fun e w' => e = .returned (.bool true) ∧ Chg Nob V w' from fun V hV => by
      refine (lsame_any (P := [1, 1]) (L := [2]) (Q := [1, 1]) (M := [2]) (by decide) (by decide) (by decide) (by decide) (by decide) (by decide) (HP.out.nob hV) (HL.out.nob hV) (HP.out.nob hV) (HL.out.nob hV)).mono ?_
      rintro e w' ⟨hc, x, rfl, hx⟩
      exact ⟨by rw [hx.2 ⟨by decide, by decide, fun i => rfl⟩], hc⟩)
  have Hpr : Hid (∀ (x : List UInt8) (W : World), Calls Try.prog 43 #[.string ⟨x.toArray⟩] W fun e w' => e = .returned (.agg #[.int .i64 3, .string ⟨x.toArray⟩, .slice none 0 0]) ∧ Chg Nob W w') := Lib.hid (fun x W => prop_any x W)
  have Hof : Hid (∀ (k : Int) (ao : Option Addr) (n c : Nat) (W : World), Calls Try.prog 42 #[.int .i64 k, .slice ao n c] W fun e w' => e = .returned (.agg #[.int .i64 k, .string ⟨#[]⟩, .slice ao n c]) ∧ Chg Nob W w') := Lib.hid (fun k ao n c W => of_any k ao n c W)
  obtain ⟨d0, d1, _⟩ := cell_two hb
  have HS : Hid (∀ w', Chg Nob X w' → w'.cell? ⟨w.heap.size + 1 + 1, 0, none⟩ = some (.slice (some ⟨w.heap.size, 0, none⟩) 2 2) ∧ w'.cell? ⟨w.heap.size + 1 + 1, 1, none⟩ = some (.slice (some ⟨w.heap.size + 1, 0, none⟩) 1 1)) := (show ∀ w', Chg Nob X w' → _ ∧ _ from fun w' h => ⟨h.cell' d0 (fun e => e), h.cell' d1 (fun e => e)⟩)
  clear hcX hP hL hb hT
  go_enter Try.func12, Try.ntmps12
  go_wp2_with fail
  rw [← hX]
  clear hX

  refine wp_region_free (fun _ => true) (fun w' => w'.cell? ⟨w.heap.size + 1 + 1, 0, none⟩ = some (.slice (some ⟨w.heap.size, 0, none⟩) 2 2) ∧ w'.cell? ⟨w.heap.size + 1 + 1, 1, none⟩ = some (.slice (some ⟨w.heap.size + 1, 0, none⟩) 1 1)) (by kernel_rfl) ⟨d0, d1⟩ (fun hHeld => ?_)
  refine wpAnyG_take (i := 4) (v := ?_) rfl (by kernel_rfl) (fun _ _ _ h => h) (Or.inl ⟨by kernel_rfl, ?_⟩) hHeld ?_
  rotate_left
  · intro w hSw; obtain ⟨d0, d1⟩ := hSw; go_simp; (try (with_reducible rfl))
  simp only [Act.put, List.setIfInBounds_toArray]
  refine wpAnyG_take (i := 5) (v := ?_) rfl (by kernel_rfl) (fun _ _ _ h => h) (Or.inl ⟨by kernel_rfl, ?_⟩) hHeld ?_
  rotate_left
  · intro w hSw; obtain ⟨d0, d1⟩ := hSw; go_simp; (try (with_reducible rfl))
  try simp only [Act.put]
  refine wpAnyG_ready (rs := [0]) (by kernel_rfl) (by simp) ?_
  refine AllReadyG.cons rfl (fun K hK => ?_) AllReadyG.nil
  rw [if_pos (by kernel_rfl)]
  go_simp
  (with_reducible refine (Hpr.out [112] _).mono ?_)
  rintro e v1 ⟨rfl, hc5⟩
  have Hv1 : Hid (Chg Nob X v1) := (show Chg Nob X v1 from (((Chg.refl Nob X).drew)).trans1 hc5)
  clear hc5
  refine hK.out _ _ (fun _ => HS.out _ Hv1.out) ?_
  clear hK K
  try simp only [Act.put]
  refine wpAnyG_ready (rs := [1]) (by kernel_rfl) (by simp) ?_
  refine AllReadyG.cons rfl (fun K hK => ?_) AllReadyG.nil
  rw [if_pos (by kernel_rfl)]
  go_simp
  (with_reducible refine (Hpr.out [113] _).mono ?_)
  rintro e v2 ⟨rfl, hc5⟩
  have Hv2 : Hid (Chg Nob X v2) := (show Chg Nob X v2 from (Hv1.out).trans1 hc5)
  clear hc5
  refine hK.out _ _ (fun _ => HS.out _ Hv2.out) ?_
  clear hK K
  try simp only [Act.put]
  refine wpAnyG_ready (rs := [2]) (by kernel_rfl) (by simp) ?_
  refine AllReadyG.cons rfl (fun K hK => ?_) AllReadyG.nil
  rw [if_pos (by kernel_rfl)]
  go_simp
  obtain ⟨v3, hv3⟩ : ∃ Z, Z = v2.alloc (.cells #[.int .i64 3, .string ⟨#[112]⟩, .slice none 0 0, .int .i64 3, .string ⟨#[113]⟩, .slice none 0 0] 37) := ⟨_, rfl⟩
  have Hv3 : Hid (Chg Nob X v3) := (show Chg Nob X v3 by rw [hv3]; exact (Hv2.out).alloc _)
  have HB : Hid (v3.heap[v2.heap.size]? = some (.cells #[.int .i64 3, .string ⟨#[112]⟩, .slice none 0 0, .int .i64 3, .string ⟨#[113]⟩, .slice none 0 0] 37 (0, 0)) ∧ v2.heap.size < v3.heap.size) := (show _ ∧ _ by rw [hv3]; exact ⟨heap_alloc_new _ _, by rw [World.size_alloc]; omega⟩)
  rw [← hv3]
  clear hv3
  refine hK.out _ _ (fun _ => HS.out _ Hv3.out) ?_
  clear hK K
  try simp only [Act.put]
  refine wpAnyG_ready (rs := [3]) (by kernel_rfl) (by simp) ?_
  refine AllReadyG.cons rfl (fun K hK => ?_) AllReadyG.nil
  rw [if_pos (by kernel_rfl)]
  go_simp
  (with_reducible refine (Hof.out 12 _ 2 2 _).mono ?_)
  rintro e v4 ⟨rfl, hc5⟩
  have Hv4 : Hid (Chg Nob X v4) := (show Chg Nob X v4 from (Hv3.out).trans1 hc5)
  have Hst : Hid (Chg Nob v3 v4) := Lib.hid hc5
  clear hc5
  refine hK.out _ _ (fun _ => HS.out _ Hv4.out) ?_
  clear hK K
  try simp only [Act.put]
  refine wpAnyG_ready (rs := [6]) (by kernel_rfl) (by simp) ?_
  refine AllReadyG.cons rfl (fun K hK => ?_) AllReadyG.nil
  rw [if_pos (by kernel_rfl)]
  go_simp
  (with_reducible refine (HHU.out v3 _ Hv3.out HB.out.2 HB.out.1 _ Hst.out).mono ?_)
  rintro e v5 ⟨rfl, hc5⟩
  have Hv5 : Hid (Chg Nob X v5) := (show Chg Nob X v5 from (Hv4.out).trans1 hc5)
  clear hc5
  refine hK.out _ _ (fun _ => HS.out _ Hv5.out) ?_
  clear hK K
  try simp only [Act.put]
  refine wpAnyG_take (i := 7) (v := ?_) rfl (by kernel_rfl) (fun _ _ _ h => h) (Or.inl ⟨by kernel_rfl, ?_⟩) (HS.out _ Hv5.out) ?_
  rotate_left
  · intro w hSw; obtain ⟨d0, d1⟩ := hSw; go_simp; (try (with_reducible rfl))
  try simp only [Act.put]
  refine wpAnyG_take (i := 8) (v := ?_) rfl (by kernel_rfl) (fun _ _ _ h => h) (Or.inl ⟨by kernel_rfl, ?_⟩) (HS.out _ Hv5.out) ?_
  rotate_left
  · intro w hSw; obtain ⟨d0, d1⟩ := hSw; go_simp; (try (with_reducible rfl))
  try simp only [Act.put]
  refine wpAnyG_take (i := 9) (v := ?_) rfl (by kernel_rfl) (fun _ _ _ h => h) (Or.inl ⟨by kernel_rfl, ?_⟩) (HS.out _ Hv5.out) ?_
  rotate_left
  · intro w hSw; obtain ⟨d0, d1⟩ := hSw; go_simp; (try (with_reducible rfl))
  try simp only [Act.put]
  refine wpAnyG_take (i := 10) (v := ?_) rfl (by kernel_rfl) (fun _ _ _ h => h) (Or.inl ⟨by kernel_rfl, ?_⟩) (HS.out _ Hv5.out) ?_
  rotate_left
  · intro w hSw; obtain ⟨d0, d1⟩ := hSw; go_simp; (try (with_reducible rfl))
  try simp only [Act.put]
  refine wpAnyG_take (i := 11) (v := ?_) rfl (by kernel_rfl) (fun _ _ _ h => h) (Or.inl ⟨by kernel_rfl, ?_⟩) (HS.out _ Hv5.out) ?_
  rotate_left
  · intro w hSw; obtain ⟨d0, d1⟩ := hSw; go_simp; (try (with_reducible rfl))
  try simp only [Act.put]
  refine wpAnyG_done (by kernel_rfl) ?_ _
  go_simp
  clear hHeld d0 d1 HB Hst
  obtain ⟨d0, d1⟩ := HS.out _ Hv5.out
  try go_wp2_with fail
  refine wp_region_free (fun _ => true) (fun w' => w'.cell? ⟨w.heap.size + 1 + 1, 0, none⟩ = some (.slice (some ⟨w.heap.size, 0, none⟩) 2 2) ∧ w'.cell? ⟨w.heap.size + 1 + 1, 1, none⟩ = some (.slice (some ⟨w.heap.size + 1, 0, none⟩) 1 1)) (by kernel_rfl) ⟨d0, d1⟩ (fun hHeld => ?_)
  refine wpAnyG_take (i := 3) (v := ?_) rfl (by kernel_rfl) (fun _ _ _ h => h) (Or.inl ⟨by rfl, ?_⟩) hHeld ?_
  rotate_left
  · intro w hSw; obtain ⟨d0, d1⟩ := hSw; go_simp; (try (with_reducible rfl))
  simp only [Act.put, List.setIfInBounds_toArray]
  refine wpAnyG_take (i := 4) (v := ?_) rfl (by kernel_rfl) (fun _ _ _ h => h) (Or.inl ⟨by kernel_rfl, ?_⟩) hHeld ?_
  rotate_left
  · intro w hSw; obtain ⟨d0, d1⟩ := hSw; go_simp; (try (with_reducible rfl))
  try simp only [Act.put]
  refine wpAnyG_ready (rs := [0]) (by kernel_rfl) (by simp) ?_
  refine AllReadyG.cons rfl (fun K hK => ?_) AllReadyG.nil
  rw [if_pos (by kernel_rfl)]
  go_simp
  (with_reducible refine (Hpr.out [112] _).mono ?_)
  rintro e v6 ⟨rfl, hc5⟩
  have Hv6 : Hid (Chg Nob X v6) := (show Chg Nob X v6 from ((Hv5.out.drew)).trans1 hc5)
  clear hc5
  refine hK.out _ _ (fun _ => HS.out _ Hv6.out) ?_
  clear hK K
  try simp only [Act.put]
  refine wpAnyG_ready (rs := [1]) (by kernel_rfl) (by simp) ?_
  refine AllReadyG.cons rfl (fun K hK => ?_) AllReadyG.nil
  rw [if_pos (by kernel_rfl)]
  go_simp
  obtain ⟨v7, hv7⟩ : ∃ Z, Z = v6.alloc (.cells #[.int .i64 3, .string ⟨#[112]⟩, .slice none 0 0] 37) := ⟨_, rfl⟩
  have Hv7 : Hid (Chg Nob X v7) := (show Chg Nob X v7 by rw [hv7]; exact (Hv6.out).alloc _)
  have HB : Hid (v7.heap[v6.heap.size]? = some (.cells #[.int .i64 3, .string ⟨#[112]⟩, .slice none 0 0] 37 (0, 0)) ∧ v6.heap.size < v7.heap.size) := (show _ ∧ _ by rw [hv7]; exact ⟨heap_alloc_new _ _, by rw [World.size_alloc]; omega⟩)
  rw [← hv7]
  clear hv7
  refine hK.out _ _ (fun _ => HS.out _ Hv7.out) ?_
  clear hK K
  try simp only [Act.put]
  refine wpAnyG_ready (rs := [2]) (by kernel_rfl) (by simp) ?_
  refine AllReadyG.cons rfl (fun K hK => ?_) AllReadyG.nil
  rw [if_pos (by kernel_rfl)]
  go_simp
  (with_reducible refine (Hof.out 6 _ 1 1 _).mono ?_)
  rintro e v8 ⟨rfl, hc5⟩
  have Hv8 : Hid (Chg Nob X v8) := (show Chg Nob X v8 from (Hv7.out).trans1 hc5)
  have Hst : Hid (Chg Nob v7 v8) := Lib.hid hc5
  clear hc5
  refine hK.out _ _ (fun _ => HS.out _ Hv8.out) ?_
  clear hK K
  try simp only [Act.put]
  refine wpAnyG_ready (rs := [5]) (by kernel_rfl) (by simp) ?_
  refine AllReadyG.cons rfl (fun K hK => ?_) AllReadyG.nil
  rw [if_pos (by kernel_rfl)]
  go_simp
  (with_reducible refine (HHA.out v7 _ Hv7.out HB.out.2 HB.out.1 _ Hst.out).mono ?_)
  rintro e v9 ⟨rfl, hc5⟩
  have Hv9 : Hid (Chg Nob X v9) := (show Chg Nob X v9 from (Hv8.out).trans1 hc5)
  clear hc5
  refine hK.out _ _ (fun _ => HS.out _ Hv9.out) ?_
  clear hK K
  try simp only [Act.put]
  refine wpAnyG_take (i := 6) (v := ?_) rfl (by kernel_rfl) (fun _ _ _ h => h) (Or.inl ⟨by kernel_rfl, ?_⟩) (HS.out _ Hv9.out) ?_
  rotate_left
  · intro w hSw; obtain ⟨d0, d1⟩ := hSw; go_simp; (try (with_reducible rfl))
  try simp only [Act.put]
  refine wpAnyG_take (i := 7) (v := ?_) rfl (by kernel_rfl) (fun _ _ _ h => h) (Or.inl ⟨by kernel_rfl, ?_⟩) (HS.out _ Hv9.out) ?_
  rotate_left
  · intro w hSw; obtain ⟨d0, d1⟩ := hSw; go_simp; (try (with_reducible rfl))
  try simp only [Act.put]
  refine wpAnyG_take (i := 8) (v := ?_) rfl (by kernel_rfl) (fun _ _ _ h => h) (Or.inl ⟨by kernel_rfl, ?_⟩) (HS.out _ Hv9.out) ?_
  rotate_left
  · intro w hSw; obtain ⟨d0, d1⟩ := hSw; go_simp; (try (with_reducible rfl))
  try simp only [Act.put]
  refine wpAnyG_take (i := 9) (v := ?_) rfl (by kernel_rfl) (fun _ _ _ h => h) (Or.inl ⟨by kernel_rfl, ?_⟩) (HS.out _ Hv9.out) ?_
  rotate_left
  · intro w hSw; obtain ⟨d0, d1⟩ := hSw; go_simp; (try (with_reducible rfl))
  try simp only [Act.put]
  refine wpAnyG_take (i := 10) (v := ?_) rfl (by kernel_rfl) (fun _ _ _ h => h) (Or.inl ⟨by kernel_rfl, ?_⟩) (HS.out _ Hv9.out) ?_
  rotate_left
  · intro w hSw; obtain ⟨d0, d1⟩ := hSw; go_simp; (try (with_reducible rfl))
  try simp only [Act.put]
  refine wpAnyG_done (by kernel_rfl) ?_ _
  go_simp
  clear hHeld d0 d1 HB Hst
  obtain ⟨d0, d1⟩ := HS.out _ Hv9.out
  try go_wp2_with fail
  (with_reducible refine (Hck.out _ (Hv9.out)).mono ?_)
  rintro e w1 ⟨rfl, hc1⟩
  have H1 : Hid (Chg Nob X w1) := (show Chg Nob X w1 from (Hv9.out).trans1 hc1)
  clear hc1 d0 d1
  obtain ⟨d0, d1⟩ := HS.out _ H1.out
  go_wp2_with fail
  (with_reducible refine (Hlt.out _ H1.out).mono ?_)
  rintro e w2 ⟨rfl, hc1⟩
  have H2 : Hid (Chg Nob X w2) := (show Chg Nob X w2 from H1.out.trans1 hc1)
  clear hc1 d0 d1
  obtain ⟨d0, d1⟩ := HS.out _ H2.out
  go_wp2_with fail
  (with_reducible refine (Hsm.out _ H2.out).mono ?_)
  rintro e w3 ⟨rfl, hc1⟩
  have H3 : Hid (Chg Nob X w3) := (show Chg Nob X w3 from H2.out.trans1 hc1)
  go_wp2_with fail
  go_ret
  exact ⟨rfl, (HcX.out).trans1 H3.out⟩
end Go.Proofs.Ytkgfdgfhpdhhaaa
