/- A formula in memory of its own. Conditions: the tree lies in the world, it is not too great. -/
import Derived.Test.YtkgfdgfhpdhhaaaFree
import Derived.Test.YtkgfdgfhpdhhaaaPdepth
namespace Go.Proofs.Ytkgfdgfhpdhhaaa
open Go.ChangeShapes Go.WideShapes Go.RowKit

/-- An append within a region that draws its order, its run known. -/
theorem wp_append_known {P : Program} {o : Oper} {a : Act} {w : World} {K : Act → World → Prop} {Q : Exit → Act → World → Prop} (sl x : Operand) (t u : TypeId) (ho : o.op = .call { callee := .builtin .append, args := #[sl, x], argTypes := #[t, u] })
    (v xv : Value) (hs : a.eval sl = v) (hx : a.eval x = xv) (v' : Value) (w' : World) (hr : (Builtin.append_ #[t, u] o.type #[v, xv]).run P w = .ok v' w') (h : K (a.put o.dst v') w') : o.wp P a w K Q := by
  unfold Oper.wp execOp
  simp only [ho, resolve, invoke, builtin, Sem.run_bind, Sem.run_pure, Result.andThen_ok, List.map_toArray, List.map_cons, List.map_nil, hs, hx, hr]
  exact h
theorem flat_at {vs : List Value} (hv : ∀ v ∈ vs, (vc v).length = 3) : ∀ {i : Nat} {v : Value}, vs[i]? = some v → ∀ {q : Nat}, q < 3 → (vs.flatMap vc)[i * 3 + q]? = (vc v)[q]? := by
  induction vs with
  | nil => intro i v h; simp at h
  | cons x vs ih =>
    intro i v h q hq
    rw [List.flatMap_cons]
    have h3 := hv x List.mem_cons_self
    cases i with
    | zero =>
      obtain rfl : x = v := by simpa using h
      rw [Nat.zero_mul, Nat.zero_add, List.getElem?_append_left (by omega)]
    | succ i =>
      rw [List.getElem?_append_right (by omega), h3, show (i + 1) * 3 + q - 3 = i * 3 + q by omega]
      exact ih (fun v hv' => hv v (List.mem_cons_of_mem _ hv')) (by simpa using h) hq
theorem kids_of_row {R : Nat → Prop} {W : World} {kids : List T} {vs : List Value} {B0 n : Nat} {sl : Value} (hrow : W.ownsRow B0 37 3 sl n (vs.flatMap vc)) (hl : vs.length = n) (hkl : kids.length = n)
    (ht : ∀ (i : Nat) (t : T) (v : Value), kids[i]? = some t → vs[i]? = some v → IsTree R W t v) (hg : ∀ g, sl.ownBlock = some g → R g) : ∃ ao cap, sl = .slice ao n cap ∧ IsKids R W ao 0 kids := by
  obtain ⟨ao, cap, rfl⟩ := ownsRow_shape hrow
  refine ⟨ao, cap, rfl, IsKids.mk kids 0 (fun j t hj => ?_)⟩
  have hjn : j < n := by rw [← hkl]; exact (List.getElem?_eq_some_iff.1 hj).1
  obtain ⟨v, hv⟩ : ∃ v, vs[j]? = some v := ⟨_, List.getElem?_eq_getElem (by omega)⟩
  have htree := ht j t v hj hv
  obtain ⟨ak, ck, rfl, _, _⟩ := htree.parts
  have hvc : ∀ x ∈ vs, (vc x).length = 3 := by
    intro x hx
    obtain ⟨i, hi⟩ := List.getElem?_of_mem hx
    have hin : i < kids.length := by have := (List.getElem?_eq_some_iff.1 hi).1; omega
    exact vc_tree (ht i _ x (List.getElem?_eq_getElem hin) hi)
  obtain ⟨g, cap', e, hc⟩ := ownsRow_some hrow (by omega)
  cases e
  have c0 := hc (j * 3 + 0) _ (by rw [flat_at hvc hv (by omega)]; rfl)
  have c1 := hc (j * 3 + 1) _ (by rw [flat_at hvc hv (by omega)]; rfl)
  have c2 := hc (j * 3 + 2) _ (by rw [flat_at hvc hv (by omega)]; rfl)
  rw [Go.WideShapes.add_plain] at c0 c1 c2
  rw [Nat.zero_add]
  exact ⟨g, 0, t.kind, ⟨t.name.toArray⟩, _, rfl, hg g rfl, c0, by rw [Nat.add_assoc]; exact c1, by rw [Nat.add_assoc]; exact c2, htree⟩
def Betw (lo hi : Nat) : Nat → Prop := fun b => lo ≤ b ∧ b < hi
/-- What a copy leaves. -/
def OwnPost (t : T) (w : World) (e : Ending) (w' : World) : Prop := Chg Nob w w' ∧ ∃ v, e = .returned v ∧ IsTree (Betw w.heap.size w'.heap.size) w' t v
structure Ow (lo : Nat) (k : Int) (nm : List UInt8) (kids : List T) (B j : Nat) (sl : Value) (vs : List Value) (wr : World) : Prop where
  box : wr.heap[B]? = some (.cells #[.int .i64 k, .string ⟨nm.toArray⟩, sl] 37 (0, 0))
  len : vs.length = j
  row : wr.ownsRow lo 37 3 sl j (vs.flatMap vc)
  trees : ∀ (i : Nat) (t : T) (v : Value), kids[i]? = some t → vs[i]? = some v → IsTree (fun b => B < b ∧ b < wr.heap.size ∧ sl.ownBlock ≠ some b) wr t v
  lob : B < lo

theorem Ow.next {lo : Nat} {k : Int} {nm : List UInt8} {kids : List T} {B j : Nat} {sl : Value} {vs : List Value} {wr w4 w5 w6 : World} {x : T} {v a b c : Value} {g' cap : Nat} (h : Ow lo k nm kids B j sl vs wr) (hx : kids[j]? = some x)
    (hc4 : Chg Nob wr w4) (ht : IsTree (Betw wr.heap.size w4.heap.size) w4 x v) (hv : v = .agg #[a, b, c]) (hw5 : w5 = w4.alloc (.cells #[a, b, c] 37)) (hr6 : w6.ownsRow lo 37 3 (.slice (some ⟨g', 0, none⟩) (j + 1) cap) (j + 1) (vs.flatMap vc ++ [a, b, c])) (hgr : w5.grownBy w6 sl.ownBlock) (hlies : sl.ownBlock = some g' ∨ g' = w5.heap.size) :
    Ow lo k nm kids B (j + 1) (.slice (some ⟨g', 0, none⟩) (j + 1) cap) (vs ++ [v]) (w6.setCell ⟨B, 2, none⟩ (.slice (some ⟨g', 0, none⟩) (j + 1) cap)) ∧ Chg (fun q => q = B ∨ lo ≤ q) wr (w6.setCell ⟨B, 2, none⟩ (.slice (some ⟨g', 0, none⟩) (j + 1) cap)) ∧ w6.heap[B]? = some (.cells #[.int .i64 k, .string ⟨nm.toArray⟩, sl] 37 (0, 0)) := by
  subst hv hw5
  have hlob := h.lob
  have hc5 : Chg Nob wr (w4.alloc (.cells #[a, b, c] 37)) := hc4.alloc _
  have hz4 := hc4.size
  have hz5 : (w4.alloc (.cells #[a, b, c] 37)).heap.size = w4.heap.size + 1 := World.size_alloc _ _
  have hBr := (Array.getElem?_eq_some_iff.1 h.box).1
  have hown : ∀ q, sl.ownBlock = some q → lo ≤ q ∧ q < wr.heap.size := fun q hq => h.row.lt q hq
  have hc56 : Chg (fun q => sl.ownBlock = some q) (w4.alloc (.cells #[a, b, c] 37)) w6 := (Chg.refl _ _).grown hgr (fun q hq _ => hq)
  have hg'lo : lo ≤ g' ∧ g' < w6.heap.size := hr6.lt g' rfl
  have hb6 : w6.heap[B]? = some (.cells #[.int .i64 k, .string ⟨nm.toArray⟩, sl] 37 (0, 0)) := hc56.at (hc5.at h.box (fun e => e)) (fun e => by have := hown B e; omega)
  have hset : Chg (At1 B) w6 (w6.setCell ⟨B, 2, none⟩ (.slice (some ⟨g', 0, none⟩) (j + 1) cap)) := (Chg.refl (At1 B) _).setCell (p := ⟨B, 2, none⟩) (fun _ => rfl) _
  have hc46 : Chg (fun q => sl.ownBlock = some q) w4 w6 := ((Chg.refl Nob w4).alloc _).any.trans1 hc56
  have hz6 := hc56.size
  have hc4s : Chg (fun q => q = B ∨ sl.ownBlock = some q) w4 (w6.setCell ⟨B, 2, none⟩ (.slice (some ⟨g', 0, none⟩) (j + 1) cap)) := (hc46.mono (fun _ _ e => .inr e)).trans hset (fun _ _ e => .inl e)
  refine ⟨⟨?_, by rw [List.length_append, h.len]; rfl, ?_, ?_, hlob⟩, ?_, hb6⟩
  · simp [World.setCell, Array.getElem?_modify, hb6]
  · rw [List.flatMap_append]
    have hne : ∀ q, (Value.slice (some ⟨g', 0, none⟩) (j + 1) cap).ownBlock = some q → ¬ At1 B q := by
      intro q hq e
      have hq : g' = q := by simpa [Value.ownBlock] using hq
      have e : q = B := e
      omega
    refine ownsRow_chg (S := At1 B) ?_ hset hne
    simpa [vc] using hr6
  · intro i t u hi hu
    by_cases hij : i < vs.length
    · rw [List.getElem?_append_left hij] at hu
      refine IsTree.mono (fun p val hp hval => ?_) (fun q hq => ⟨hq.1, ?_, ?_⟩) t u (h.trees i t u hi hu)
      · exact (hc4.any.trans1 hc4s).cell' hval (fun e => by rcases e with e | e; (have := hp.1; omega); exact hp.2.2 e)
      · have : (w6.setCell ⟨B, 2, none⟩ (.slice (some ⟨g', 0, none⟩) (j + 1) cap)).heap.size = w6.heap.size := by simp [World.setCell]
        rw [this]; have := hq.2.1; omega
      · intro e
        have e : g' = q := by simpa [Value.ownBlock] using e
        rcases hlies with e2 | e2
        · exact hq.2.2 (by rw [e2, e])
        · have := hq.2.1; omega
    · have hi2 : i = vs.length := by
        have := (List.getElem?_eq_some_iff.1 hu).1
        rw [List.length_append] at this
        simp only [List.length_cons, List.length_nil] at this
        omega
      subst hi2
      rw [List.getElem?_append_right (Nat.le_refl _), Nat.sub_self] at hu
      obtain rfl : Value.agg #[a, b, c] = u := by simpa using hu
      rw [h.len] at hi
      rw [hx] at hi
      cases hi
      refine IsTree.mono (fun p val hp hval => ?_) (fun q hq => ⟨?_, ?_, ?_⟩) x _ ht
      · exact hc4s.cell' hval (fun e => by rcases e with e | e; (have := hp.1; omega); (have := hown _ e; have := hp.1; omega))
      · have := hq.1; omega
      · have : (w6.setCell ⟨B, 2, none⟩ (.slice (some ⟨g', 0, none⟩) (j + 1) cap)).heap.size = w6.heap.size := by simp [World.setCell]
        rw [this]; have := hq.2; omega
      · intro e
        have e : g' = q := by simpa [Value.ownBlock] using e
        rcases hlies with e2 | e2
        · have := hown _ e2; have := hq.1; omega
        · have := hq.2; omega
  · exact (hc4.any.trans1 hc4s).mono (fun q _ e => by rcases e with e | e; exact .inl e; exact .inr (hown q e).1)

set_option maxRecDepth 100000 in
set_option maxHeartbeats 8000000 in
theorem own_any : ∀ t : T, sizeT t ≤ 1000000 → ∀ (R : Nat → Prop) (v : Value) (w : World), IsTree R w t v → (∀ b, R b → b < w.heap.size) → Calls Try.prog 30 #[v] w (OwnPost t w) := by
  refine kid_induct ?_
  intro t ih hN R v w ht hR
  obtain ⟨ao, cap, rfl, hlen, hk⟩ := ht.parts
  have hkl := sizeL_len t.kids
  have hsz : sizeL t.kids + 1 ≤ 1000000 := by rw [sizeT_eq] at hN; omega
  have hW : Hid (∃ W, W = ((w.alloc (.cells #[.int .i64 t.kind, .string ⟨t.name.toArray⟩, .slice ao t.kids.length cap] 37)).alloc (.cells #[.int .i64 0, .string ⟨#[]⟩, .slice none 0 0] 37)).alloc (.cells #[.int .i64 t.kind, .string ⟨t.name.toArray⟩, .slice none 0 0] 37) ∧ Chg Nob w W ∧ W.heap.size = w.heap.size + 3 ∧
      W.heap[w.heap.size]? = some (.cells #[.int .i64 t.kind, .string ⟨t.name.toArray⟩, .slice ao t.kids.length cap] 37 (0, 0)) ∧ W.heap[w.heap.size + 1]? = some (.cells #[.int .i64 0, .string ⟨#[]⟩, .slice none 0 0] 37 (0, 0)) ∧ W.heap[w.heap.size + 1 + 1]? = some (.cells #[.int .i64 t.kind, .string ⟨t.name.toArray⟩, .slice none 0 0] 37 (0, 0))) := by
    have h1 := heap_alloc_new (w.alloc (.cells #[.int .i64 t.kind, .string ⟨t.name.toArray⟩, .slice ao t.kids.length cap] 37)) (.cells #[.int .i64 0, .string ⟨#[]⟩, .slice none 0 0] 37)
    have h2 := heap_alloc_new ((w.alloc (.cells #[.int .i64 t.kind, .string ⟨t.name.toArray⟩, .slice ao t.kids.length cap] 37)).alloc (.cells #[.int .i64 0, .string ⟨#[]⟩, .slice none 0 0] 37)) (.cells #[.int .i64 t.kind, .string ⟨t.name.toArray⟩, .slice none 0 0] 37)
    rw [World.size_alloc] at h1
    rw [World.size_alloc, World.size_alloc] at h2
    exact ⟨_, rfl, (((Chg.refl _ _).alloc _).alloc _).alloc _, by rw [World.size_alloc, World.size_alloc, World.size_alloc], (((Chg.refl Nob _).alloc _).alloc _).at (heap_alloc_new w _) (fun e => e), ((Chg.refl Nob _).alloc _).at h1 (fun e => e), h2⟩
  have Ih := Lib.hid ih
  have Hk := Lib.hid hk
  clear ht hk ih
  go_enter Try.func30, Try.ntmps30
  go_wp2_with fail
  obtain ⟨W, hWe, hcW, hsW, hb0, hb1, hb2⟩ := hW.out
  rw [← hWe]
  clear hW hWe
  have Hb0 := Lib.hid hb0
  have Hb1 := Lib.hid hb1
  have HsW := Lib.hid hsW
  have hOw0 : Ow (w.heap.size + 3) t.kind t.name t.kids (w.heap.size + 1 + 1) 0 (.slice none 0 0) [] W := ⟨hb2, rfl, ⟨rfl, .inl ⟨rfl, rfl⟩⟩, fun i t v _ h => by simp at h, by omega⟩
  clear hb0 hb1 hb2
  go_loopw [4] (fun i wr => ∃ (j : Nat) (sl : Value) (vs : List Value), i = .int .i64 j ∧ j ≤ t.kids.length ∧ Hid (Ow (w.heap.size + 3) t.kind t.name t.kids (w.heap.size + 1 + 1) j sl vs wr) ∧ Hid (Chg (fun q => q = w.heap.size + 1 + 1 ∨ w.heap.size + 3 ≤ q) W wr)) (fun i _ => t.kids.length - (intOf i).toNat)
  case atStart => exact ⟨0, _, _, rfl, Nat.zero_le _, hOw0, Chg.refl _ _⟩
  case round =>
    clear hOw0
    obtain ⟨j, sl, vs, rfl, hj, HO, Hc⟩ := hrel
    have hsW := HsW.out
    have hb0 := Hc.out.at Hb0.out (fun e => by rcases e with e | e <;> omega)
    have hb1 := Hc.out.at Hb1.out (fun e => by rcases e with e | e <;> omega)
    have d2 := cell_row hb0 2 (v := .slice ao t.kids.length cap) rfl
    have e2 := cell_row HO.out.box 2 (v := sl) rfl
    have hcw : Chg Nob w wr := (hcW.any (S := fun q => q = w.heap.size + 1 + 1 ∨ w.heap.size + 3 ≤ q)).trans1 Hc.out |>.mono (fun i hi e => by rcases e with e | e <;> omega)
    have hszr := Hc.out.size
    by_cases hlt : j < t.kids.length
    · obtain ⟨x, hx⟩ : ∃ x, t.kids[j]? = some x := ⟨_, List.getElem?_eq_getElem hlt⟩
      obtain ⟨b1, o1, ak1, cap1, hao1, hRb, p0, p1, p2, _, _, htr1⟩ := Hk.out.kid hx
      have p0' := hcw.cell' p0 (fun e => e)
      have p1' := hcw.cell' p1 (fun e => e)
      have p2' := hcw.cell' p2 (fun e => e)
      have hki : (j : Int) < (t.kids.length : Int) := by omega
      have hk0 : (0 : Int) ≤ (j : Int) := by omega
      have hcall : ∀ X, Chg Nob wr X → Calls Try.prog 30 #[.agg #[.int .i64 x.kind, .string ⟨x.name.toArray⟩, .slice ak1 x.kids.length cap1]] X (OwnPost x X) :=
        fun X hX => Ih.out x (List.mem_of_getElem? hx) (by have := sizeT_kid hx; omega) R _ X (htr1.nob (hcw.trans1 hX)) (fun b hb => by have := hR b hb; have := hX.size; have := hcw.size; omega)
      have Hcall := Lib.hid hcall
      have Hx := Lib.hid hx
      clear p0 p1 p2 htr1 hx hcall hb0 hb1
      subst hao1
      go_wp2_with fail
      refine wp_region_free (fun j => j != 11) (fun w' => w'.cell? ⟨w.heap.size, 2, none⟩ = some (.slice (some ⟨b1, o1, none⟩) t.kids.length cap) ∧ w'.cell? ⟨w.heap.size + 1 + 1, 2, none⟩ = some sl ∧ w'.cell? ⟨b1, o1 + j * 3, none⟩ = some (.int .i64 x.kind) ∧ w'.cell? ⟨b1, o1 + j * 3 + 1, none⟩ = some (.string ⟨x.name.toArray⟩) ∧ w'.cell? ⟨b1, o1 + j * 3 + 2, none⟩ = some (.slice ak1 x.kids.length cap1)) (by kernel_rfl) ⟨d2, e2, p0', p1', p2'⟩ (fun hHeld => ?_)
      refine wpAnyG_take (i := 0) (v := ?_) rfl (by kernel_rfl) (fun _ _ _ h => h) (Or.inl ⟨by rfl, ?_⟩) hHeld ?_
      rotate_left
      · intro w hSw; obtain ⟨d2, e2, p0, p1, p2⟩ := hSw; go_simp; try (with_reducible rfl)
      simp only [Act.put, List.setIfInBounds_toArray]
      refine wpAnyG_take (i := 1) (v := ?_) rfl (by kernel_rfl) (fun _ _ _ h => h) (Or.inl ⟨by rfl, ?_⟩) hHeld ?_
      rotate_left
      · intro w hSw; obtain ⟨d2, e2, p0, p1, p2⟩ := hSw; go_simp; try (with_reducible rfl)
      simp only [Act.put]
      refine wpAnyG_take (i := 2) (v := ?_) rfl (by kernel_rfl) (fun _ _ _ h => h) (Or.inl ⟨by rfl, ?_⟩) hHeld ?_
      rotate_left
      · intro w hSw; obtain ⟨d2, e2, p0, p1, p2⟩ := hSw; go_simp; try (with_reducible rfl)
      simp only [Act.put]
      refine wpAnyG_take (i := 3) (v := ?_) rfl (by kernel_rfl) (fun _ _ _ h => h) (Or.inl ⟨by rfl, ?_⟩) hHeld ?_
      rotate_left
      · intro w hSw; obtain ⟨d2, e2, p0, p1, p2⟩ := hSw; go_simp; try (with_reducible rfl)
      simp only [Act.put]
      refine wpAnyG_take (i := 4) (v := ?_) rfl (by kernel_rfl) (fun _ _ _ h => h) (Or.inl ⟨by rfl, ?_⟩) hHeld ?_
      rotate_left
      · intro w hSw; obtain ⟨d2, e2, p0, p1, p2⟩ := hSw; go_simp; try (with_reducible rfl)
      simp only [Act.put]
      refine wpAnyG_take (i := 5) (v := ?_) rfl (by kernel_rfl) (fun _ _ _ h => h) (Or.inl ⟨by rfl, ?_⟩) hHeld ?_
      rotate_left
      · intro w hSw; obtain ⟨d2, e2, p0, p1, p2⟩ := hSw; go_simp; try (with_reducible rfl)
      simp only [Act.put]
      refine wpAnyG_take (i := 6) (v := ?_) rfl (by kernel_rfl) (fun _ _ _ h => h) (Or.inl ⟨by rfl, ?_⟩) hHeld ?_
      rotate_left
      · intro w hSw; obtain ⟨d2, e2, p0, p1, p2⟩ := hSw; go_simp; try (with_reducible rfl)
      simp only [Act.put]
      refine wpAnyG_ready (rs := [7]) (by kernel_rfl) (by simp) ?_
      refine AllReadyG.cons rfl (fun K hK => ?_) AllReadyG.nil
      go_simp
      refine (Hcall.out _ (by exact (Chg.refl _ _).drew)).mono ?_
      rintro e w4 ⟨hc4, v, rfl, htv⟩
      have hc4' : Chg Nob wr w4 := (Chg.refl Nob wr).drew.trans1 hc4
      obtain ⟨av, cv, rfl, _, _⟩ := htv.parts
      have s4 := And.intro (hc4'.cell' d2 (fun e => e)) (And.intro (hc4'.cell' e2 (fun e => e)) (And.intro (hc4'.cell' p0' (fun e => e)) (And.intro (hc4'.cell' p1' (fun e => e)) (hc4'.cell' p2' (fun e => e)))))
      refine hK.out _ _ (fun _ => s4) ?_
      clear K hK
      refine wpAnyG_ready (rs := [8]) (by kernel_rfl) (by simp) ?_
      refine AllReadyG.cons rfl (fun K hK => ?_) AllReadyG.nil
      go_simp
      have hA : Chg Nob w4 (w4.alloc (.cells #[.int .i64 x.kind, .string ⟨x.name.toArray⟩, .slice av x.kids.length cv] 37)) := (Chg.refl _ _).alloc _
      have s5 := And.intro (hA.cell' s4.1 (fun e => e)) (And.intro (hA.cell' s4.2.1 (fun e => e)) (And.intro (hA.cell' s4.2.2.1 (fun e => e)) (And.intro (hA.cell' s4.2.2.2.1 (fun e => e)) (hA.cell' s4.2.2.2.2 (fun e => e)))))
      refine hK.out _ _ (fun _ => s5) ?_
      clear K hK
      refine wpAnyG_ready (rs := [9]) (by kernel_rfl) (by simp) ?_
      refine AllReadyG.cons rfl (fun K hK => ?_) AllReadyG.nil
      rw [if_pos (by rfl)]
      obtain ⟨g', capg, w6, hrun, hrow6, hgr, hlies, hg6⟩ := append37 (ys := [.int .i64 x.kind, .string ⟨x.name.toArray⟩, .slice av x.kids.length cv]) (ownsRow_chg (ownsRow_chg HO.out.row hc4' (fun _ _ e => e)) hA (fun _ _ e => e)) (by have := hc4'.size; have := hA.size; omega) (by omega) rfl (by intro u hu; simp at hu; rcases hu with rfl | rfl | rfl <;> rfl) (heap_alloc_new w4 _)
      obtain ⟨hO6, hc6, hb6⟩ := HO.out.next Hx.out hc4' (v := .agg #[.int .i64 x.kind, .string ⟨x.name.toArray⟩, .slice av x.kids.length cv]) htv rfl rfl hrow6 hgr hlies
      have hc56 : Chg (fun q => sl.ownBlock = some q) (w4.alloc (.cells #[.int .i64 x.kind, .string ⟨x.name.toArray⟩, .slice av x.kids.length cv] 37)) w6 := (Chg.refl _ _).grown hgr (fun q hq _ => hq)
      have hown : ∀ q, sl.ownBlock = some q → w.heap.size + 3 ≤ q := fun q hq => (HO.out.row.lt q hq).1
      have hb1w := World.block_lt_of_cell? _ _ p0'
      have hRb1 := hR b1 hRb
      refine wp_append_known (.tmp 18) (.tmp 25) 35 35 rfl _ _ rfl rfl _ w6 hrun ?_
      have s6 : w6.cell? ⟨w.heap.size, 2, none⟩ = some (.slice (some ⟨b1, o1, none⟩) t.kids.length cap) ∧ w6.cell? ⟨w.heap.size + 1 + 1, 2, none⟩ = some sl ∧ w6.cell? ⟨b1, o1 + j * 3, none⟩ = some (.int .i64 x.kind) ∧ w6.cell? ⟨b1, o1 + j * 3 + 1, none⟩ = some (.string ⟨x.name.toArray⟩) ∧ w6.cell? ⟨b1, o1 + j * 3 + 2, none⟩ = some (.slice ak1 x.kids.length cap1) :=
        ⟨hc56.cell' s5.1 (fun e => by have := hown _ e; simp at this; omega), hc56.cell' s5.2.1 (fun e => by have := hown _ e; simp at this; omega), hc56.cell' s5.2.2.1 (fun e => by have := hown _ e; simp at this; omega), hc56.cell' s5.2.2.2.1 (fun e => by have := hown _ e; simp at this; omega), hc56.cell' s5.2.2.2.2 (fun e => by have := hown _ e; simp at this; omega)⟩
      refine hK.out _ _ (fun _ => s6) ?_
      clear K hK
      simp only [Act.put]
      refine wpAnyG_ready (rs := [10]) (by kernel_rfl) (by simp) ?_
      refine AllReadyG.cons rfl (fun K hK => ?_) AllReadyG.nil
      go_simp
      refine hK.out _ _ (fun _ => s6) ?_
      clear K hK
      refine wpAnyG_ready (rs := [11]) (by kernel_rfl) (by simp) ?_
      refine AllReadyG.cons rfl (fun K hK => ?_) AllReadyG.nil
      obtain ⟨r0, r1, r2, f0, f1, f2⟩ := cells_three hb6
      have HO6 := Lib.hid hO6
      have Hc6 := Lib.hid hc6
      clear hO6 hc6 hb6 hrun hrow6 hgr hlies
      go_simp
      refine hK.out _ _ (fun h => by cases h) ?_
      clear K hK s4 s5 s6 r0 r1 r2 f0 f1 f2 d2 e2 p0' p1' p2' hHeld
      refine wpAnyG_done (by kernel_rfl) ?_ _
      generalize w6.setCell ⟨w.heap.size + 1 + 1, 2, none⟩ (.slice (some ⟨g', 0, none⟩) (j + 1) capg) = w7 at *
      go_wp2_with fail
      go_roundw
      case rel => exact ⟨j + 1, _, _, by go_num, by omega, HO6, Hc.out.trans Hc6.out (fun i hi e => e)⟩
      case measure => simp [intOf]; omega
    · obtain rfl : j = t.kids.length := by omega
      obtain ⟨ao2, cap2, hsl, hkids⟩ := kids_of_row HO.out.row HO.out.len rfl (R := Betw (w.heap.size + 2) wr.heap.size) (fun i t v h1 h2 => IsTree.mono (fun _ _ _ h => h) (fun q hq => ⟨by have := hq.1; omega, hq.2.1⟩) t v (HO.out.trees i t v h1 h2)) (fun g hg => by have := HO.out.row.lt g hg; exact ⟨by omega, this.2⟩)
      subst hsl
      obtain ⟨y0, y1, y2, g0, g1, g2⟩ := cells_three HO.out.box
      obtain ⟨r0, r1, r2, f0, f1, f2⟩ := cells_three hb1
      have k3 := chg_three wr (w.heap.size + 1) (.int .i64 t.kind) (.string ⟨t.name.toArray⟩) (.slice ao2 t.kids.length cap2)
      have hb7 := block_three_all hb1 (.int .i64 t.kind) (.string ⟨t.name.toArray⟩) (.slice ao2 t.kids.length cap2)
      obtain ⟨z0, z1, z2, _⟩ := cells_three hb7
      have Hz := Lib.hid (And.intro z0 (And.intro z1 z2))
      have Hpost : Hid (OwnPost t w (.returned (.agg #[.int .i64 t.kind, .string ⟨t.name.toArray⟩, .slice ao2 t.kids.length cap2])) (((wr.setCell ⟨w.heap.size + 1, 0, none⟩ (.int .i64 t.kind)).setCell ⟨w.heap.size + 1, 1, none⟩ (.string ⟨t.name.toArray⟩)).setCell ⟨w.heap.size + 1, 2, none⟩ (.slice ao2 t.kids.length cap2))) := by
        refine ⟨(hcw.any (S := At1 (w.heap.size + 1))).trans1 k3 |>.mono (fun i hi e => by have e : i = w.heap.size + 1 := e; omega), _, rfl, ?_⟩
        have htr := IsTree.of_parts (cap := cap2) hlen hkids
        refine IsTree.mono (fun p val hp hval => k3.cell' hval (fun e => by have e : p.block = w.heap.size + 1 := e; have := hp.1; omega)) (fun q hq => ⟨by have := hq.1; omega, ?_⟩) t _ htr
        have : (((wr.setCell ⟨w.heap.size + 1, 0, none⟩ (.int .i64 t.kind)).setCell ⟨w.heap.size + 1, 1, none⟩ (.string ⟨t.name.toArray⟩)).setCell ⟨w.heap.size + 1, 2, none⟩ (.slice ao2 t.kids.length cap2)).heap.size = wr.heap.size := by simp [World.setCell]
        rw [this]; exact hq.2
      clear hb0 hb1 hb7 k3 z0 z1 z2
      go_wp2
      obtain ⟨z0, z1, z2⟩ := Hz.out
      exact bodyPost_ret (v := .agg #[.int .i64 t.kind, .string ⟨t.name.toArray⟩, .slice ao2 t.kids.length cap2]) (by simp [results, Try.results30, go_sem, z0, z1, z2]) rfl Hpost.out
end Go.Proofs.Ytkgfdgfhpdhhaaa
