/- A lasso's suffix. Conditions: the rows lie in the world, they are short. -/
import Derived.Test.YtkgfdgfhpdhhaaaLper
import Derived.Test.YtkgfdgfhpdhhaaaLcan
import Derived.Test.YtkgfdgfhpdhhaaaFree
namespace Go.Proofs.Ytkgfdgfhpdhhaaa
open Go.ChangeShapes Go.WideShapes Go.RowKit

theorem addr_block (a : Addr) (n : Nat) : (a.add n).block = a.block := by unfold Addr.add; split <;> rfl
/-- A lasso that lies in the world. -/
def LasV (w : World) (P L : List Int) (v : Value) : Prop := ∃ ap cp al cl, v = .agg #[.slice ap P.length cp, .slice al L.length cl] ∧ URow w ap P ∧ URow w al L
def LasPost (P L : List Int) (code : Int) (w : World) (e : Ending) (w' : World) : Prop := Chg Nob w w' ∧ ∃ v, e = .returned (.tuple #[v, .int .i64 code]) ∧ LasV w' P L v
def sufP (P L : List Int) (i : Nat) : List Int := if lcheckN P.length L.length = 0 then P.drop i else []
def sufL (P L : List Int) (i : Nat) : List Int := if lcheckN P.length L.length = 0 then turned L ((i - P.length) % L.length) else []
theorem URow.nil (w : World) (ao : Option Addr) : URow w ao [] := fun j x h => by simp at h
theorem LasV.nil (w : World) : LasV w [] [] (.agg #[.slice none 0 0, .slice none 0 0]) := ⟨Option.none, 0, Option.none, 0, rfl, URow.nil _ _, URow.nil _ _⟩
theorem URow.chg {S : Nat → Prop} {W W' : World} {ao : Option Addr} {L : List Int} (h : URow W ao L) (hc : Chg S W W') (hn : ∀ a, ao = some a → ¬ S a.block) : URow W' ao L := fun j x hj => by
  obtain ⟨a, e, h2⟩ := h j x hj
  exact ⟨a, e, hc.cell' h2 (by rw [addr_block]; exact hn a e)⟩
/-- A row that a call made, as letters. -/
theorem URow.own {w : World} {B n : Nat} {v : Value} {M : List Int} (h : w.ownsRow B 25 1 v n (uvs M)) (hn : n = M.length) : ∃ ao c, v = .slice ao M.length c ∧ URow w ao M ∧ (∀ a, ao = some a → B ≤ a.block) := by
  subst hn
  rcases Nat.eq_zero_or_pos M.length with h0 | h0
  · obtain rfl := List.eq_nil_of_length_eq_zero h0
    rcases h.2 with ⟨h1, _⟩ | ⟨g, cap, cur, hv, hb, _⟩
    · exact ⟨none, 0, h1, URow.nil _ _, fun a e => by cases e⟩
    · exact ⟨_, _, hv, URow.nil _ _, fun a e => by cases e; exact hb⟩
  · have hlt := h.lt
    obtain ⟨g, cap, hv, hc⟩ := ownsRow_some h h0
    refine ⟨_, cap, hv, fun j x hj => ⟨_, rfl, hc j _ (by unfold uvs; rw [List.getElem?_map, hj]; rfl)⟩, fun a e => ?_⟩
    cases e
    exact (hlt g (by rw [hv]; rfl)).1
theorem lcheck_ok {np nl : Nat} (h : (lcheckN np nl == 0) = true) : 0 < nl ∧ np + nl ≤ 4096 := by
  have h := beq_iff_eq.1 h
  unfold lcheckN at h
  split at h
  · cases h
  · omega
theorem row_drop {w : World} {a : Addr} {L : List Int} (h : URow w (some a) L) (k : Nat) : ∀ j x, (L.drop k)[j]? = some x → w.cell? ((a.add k).add j) = some (.int .u64 x) := fun j x hj => by
  rw [List.getElem?_drop] at hj
  obtain ⟨a', e, h2⟩ := h _ _ hj
  cases e
  by_cases h0 : k = 0
  · subst h0
    rw [Nat.zero_add] at h2
    exact h2
  · have e : (a.add k).add j = a.add (k + j) := by
      unfold Addr.add
      rw [if_neg h0, if_neg (show ¬ k + j = 0 by omega)]
      split
      · subst_vars; rfl
      · rw [Nat.add_assoc]
    rw [e]; exact h2
theorem row_take {w : World} {a : Addr} {L : List Int} (h : URow w (some a) L) (k : Nat) : ∀ j x, (L.take k)[j]? = some x → w.cell? (a.add j) = some (.int .u64 x) := fun j x hj => by
  have hlt := (List.getElem?_eq_some_iff.1 hj).1
  rw [List.length_take] at hlt
  rw [List.getElem?_take_of_lt (by omega)] at hj
  obtain ⟨a', e, h2⟩ := h _ _ hj
  cases e
  exact h2
theorem clone_row {w : World} {a : Addr} {M : List Int} {n c : Nat} (hn : n = M.length) (hl : n ≤ 10000) (h : ∀ j x, M[j]? = some x → w.cell? (a.add j) = some (.int .u64 x)) :
    Calls Try.prog 44 #[.slice (some a) n c] w fun e w' => Chg Nob w w' ∧ ∃ v, e = .returned v ∧ w'.ownsRow w.heap.size 25 1 v n (uvs M) := by
  subst hn
  exact uclone_any c hl h
/-- An append whose run is known. -/
theorem wp_append_known {P : Program} {w : World} {o : Oper} {a : Act} {K : Act → World → Prop} {Q : Exit → Act → World → Prop} (sl x : Operand) (t u : TypeId)
    (ho : o.op = .call { callee := .builtin .append, args := #[sl, x], argTypes := #[t, u] }) (v xv : Value) (hs : a.eval sl = v) (hx : a.eval x = xv) (v' : Value) (w' : World)
    (hr : (Builtin.append_ #[t, u] o.type #[v, xv]).run P w = .ok v' w') (h : K (a.put o.dst v') w') : o.wp P a w K Q := by
  unfold Oper.wp execOp
  simp only [ho, resolve, invoke, builtin, Sem.run_bind, Sem.run_pure, Result.andThen_ok, List.map_toArray, List.map_cons, List.map_nil, hs, hx, hr]
  exact h
theorem results13 {rb : Nat} {c : Int} {tm : Array Value} {w : World} {x y : Value} (h4 : tm[4]? = some (.pointer (some ⟨rb, 0, none⟩))) (h5 : tm[5]? = some (.int .i64 c)) (hb : w.heap[rb]? = some (.cells #[x, y] 24 (0, 0))) :
    (results Try.f13 tm).run Try.prog w = .ok (.tuple #[.agg #[x, y], .int .i64 c]) w := by
  have c0 := (cell_two hb).1
  have c1 := (cell_two hb).2.1
  simp [results, Try.results13, go_sem, h4, h5, c0, c1]
section
variable {ap al : Option Addr} {cp cl : Nat} {P L : List Int} {w : World}
set_option maxRecDepth 100000 in
set_option maxHeartbeats 8000000 in
theorem lsuffix_any (hl : P.length + L.length ≤ 10000) (hcp : P.length ≤ cp) (hcl : L.length ≤ cl) (hP : URow w ap P) (hL : URow w al L) (i : Nat) (hi : i < 18446744073709551616) :
    Calls Try.prog 13 #[.agg #[.slice ap P.length cp, .slice al L.length cl], .int .u64 (i : Int)] w (LasPost (sufP P L i) (sufL P L i) (lcheckN P.length L.length) w) := by
  obtain ⟨X, hX, hcX, hb0, hb1⟩ : ∃ X, X = (w.alloc (.cells #[.slice ap P.length cp, .slice al L.length cl] 24)).alloc (.cells #[.slice none 0 0, .slice none 0 0] 24) ∧ Chg Nob w X ∧ X.heap[w.heap.size]? = some (.cells #[.slice ap P.length cp, .slice al L.length cl] 24 (0, 0)) ∧ X.heap[w.heap.size + 1]? = some (.cells #[.slice none 0 0, .slice none 0 0] 24 (0, 0)) := by
    have h1 := heap_alloc_new (w.alloc (.cells #[.slice ap P.length cp, .slice al L.length cl] 24)) (.cells #[.slice none 0 0, .slice none 0 0] 24)
    rw [World.size_alloc] at h1
    exact ⟨_, rfl, ((Chg.refl _ _).alloc _).alloc _, ((Chg.refl Nob _).alloc _).at (heap_alloc_new w _) (fun e => e), h1⟩
  have hck := lcheck_any (cp := cp) (cl := cl) (ap := ap) (al := al) (w := X) P.length L.length hl
  have HPX := Lib.hid (hP.nob hcX)
  have HLX := Lib.hid (hL.nob hcX)
  have HcX := Lib.hid hcX
  have Hb0 := Lib.hid hb0
  have Hb1 := Lib.hid hb1
  obtain ⟨c0, c1, _⟩ := cell_two hb0
  rw [hX] at c0 c1
  obtain ⟨n, hn⟩ : ∃ n, n = lcheckN P.length L.length := ⟨_, rfl⟩
  rw [← hn] at hck ⊢
  have Hn := Lib.hid hn
  clear hP hL hcX hb0 hb1 hn
  go_enter Try.func13, Try.ntmps13
  go_wp2_with fail
  rw [← hX]
  clear hX c0 c1
  (with_reducible refine hck.mono ?_)
  clear hck
  rintro e w2 ⟨rfl, hc2⟩
  cases h0 : (n == 0) with
  | false =>
    have hne : (n != 0) = true := by rw [bne, h0]; rfl
    have Hs : Hid (sufP P L i = [] ∧ sufL P L i = []) := (show sufP P L i = [] ∧ sufL P L i = [] by
      unfold sufP sufL
      have : ¬ lcheckN P.length L.length = 0 := by rw [← Hn.out]; exact beq_eq_false_iff_ne.1 h0
      rw [if_neg this, if_neg this]; exact ⟨rfl, rfl⟩)
    obtain ⟨d0, d1, f0, f1⟩ := cell_two (hc2.at Hb1.out (fun e => e))
    have hb := hc2.at Hb1.out (fun e => e)
    have Hb := Lib.hid (block_two_set1 (u := .slice none 0 0) (block_two_set0 (u := .slice none 0 0) hb))
    have Hc : Hid (Chg Nob w ((w2.setCell ⟨w.heap.size + 1, 0, none⟩ (.slice none 0 0)).setCell ⟨w.heap.size + 1, 1, none⟩ (.slice none 0 0))) :=
      (HcX.out.trans1 hc2).trans (S' := At1 (w.heap.size + 1)) (((Chg.refl (At1 (w.heap.size + 1)) _).setCell (p := ⟨w.heap.size + 1, 0, none⟩) (fun _ => rfl) _).setCell (p := ⟨w.heap.size + 1, 1, none⟩) (fun _ => rfl) _) (fun i hi e => by have e : i = w.heap.size + 1 := e; omega)
    clear hb hc2
    go_wp2
    exact bodyPost_ret (results13 rfl rfl Hb.out) rfl ⟨Hc.out, _, rfl, by rw [Hs.out.1, Hs.out.2]; exact .nil _⟩
  | true =>
    have hne : (n != 0) = false := by rw [bne, h0]; rfl
    have hck : lcheckN P.length L.length = 0 := by rw [← Hn.out]; exact beq_iff_eq.1 h0
    obtain ⟨hl0, hl1⟩ := lcheck_ok (np := P.length) (nl := L.length) (by rw [← Hn.out]; exact h0)
    have Hs : Hid (sufP P L i = P.drop i ∧ sufL P L i = turned L ((i - P.length) % L.length)) := (show _ ∧ _ by
      unfold sufP sufL
      rw [if_pos hck, if_pos hck]; exact ⟨rfl, rfl⟩)
    have Hn0 : Hid (n = 0) := beq_iff_eq.1 h0
    have hcw2 := HcX.out.trans1 hc2
    have hb0 := hc2.at Hb0.out (fun e => e)
    have hb1 := hc2.at Hb1.out (fun e => e)
    have HP2 := Lib.hid (HPX.out.nob hc2)
    have HL2 := Lib.hid (HLX.out.nob hc2)
    have hsz : w.heap.size + 2 ≤ w2.heap.size := by
      have h := World.block_lt_of_cell? w2 ⟨w.heap.size + 1, 0, none⟩ (cell_two hb1).1
      have h : w.heap.size + 1 < w2.heap.size := h
      omega
    have hS : ∀ w', Chg (At1 (w.heap.size + 1)) w2 w' → w'.cell? ⟨w.heap.size, 0, none⟩ = some (.slice ap P.length cp) ∧ w'.cell? ⟨w.heap.size, 1, none⟩ = some (.slice al L.length cl) := fun w' h => by
      obtain ⟨c0, c1, _⟩ := cell_two (h.at hb0 (fun e => by have e : w.heap.size = w.heap.size + 1 := e; omega))
      exact ⟨c0, c1⟩
    have hSx := Lib.hid hS
    obtain ⟨c0, c1⟩ := hS _ (Chg.refl _ _)
    have Hb1' := Lib.hid hb1
    have Hcw2 := Lib.hid hcw2
    have hii : (0 : Int) ≤ (i : Int) := by omega
    have hii2 : (i : Int) < 18446744073709551616 := by omega
    have hpl : (P.length : Int) ≤ 10000 := by omega
    have hll : (L.length : Int) ≤ 10000 := by omega
    clear hck hS hb0 hb1 hcw2 hc2 HPX HLX HcX Hb0 Hb1 h0 Hn hl1
    by_cases hlt : i < P.length
    · have hlti : (i : Int) < (P.length : Int) := by omega
      obtain ⟨x, hx⟩ : ∃ x, P[i]? = some x := ⟨_, List.getElem?_eq_getElem hlt⟩
      obtain ⟨a, rfl, _⟩ := HP2.out i x hx
      obtain ⟨y, hy⟩ : ∃ y, L[0]? = some y := ⟨_, List.getElem?_eq_getElem hl0⟩
      obtain ⟨b, rfl, _⟩ := HL2.out 0 y hy
      clear hx hy
      have hile : i ≤ P.length := by omega
      have hcni : ¬ cp = i := by omega
      go_wp2_with fail
      refine wp_region_free (fun _ => true) (fun w' => w'.cell? ⟨w.heap.size, 0, none⟩ = some (.slice (some a) P.length cp) ∧ w'.cell? ⟨w.heap.size, 1, none⟩ = some (.slice (some b) L.length cl)) (by kernel_rfl) ⟨c0, c1⟩ (fun hHeld => ?_)
      refine wpAnyG_take (i := 0) (v := ?_) rfl (by kernel_rfl) (fun _ _ _ h => h) (Or.inl ⟨by rfl, ?_⟩) hHeld ?_
      rotate_left
      · intro w hSw; obtain ⟨c0, c1⟩ := hSw; go_simp; try (with_reducible rfl)
      try simp only [Act.put, List.setIfInBounds_toArray]
      refine wpAnyG_take (i := 1) (v := ?_) rfl (by kernel_rfl) (fun _ _ _ h => h) (Or.inl ⟨by rfl, ?_⟩) hHeld ?_
      rotate_left
      · intro w hSw; obtain ⟨c0, c1⟩ := hSw; go_simp; try (with_reducible rfl)
      try simp only [Act.put]
      refine wpAnyG_take (i := 2) (v := ?_) rfl (by kernel_rfl) (fun _ _ _ h => h) (Or.inl ⟨by rfl, ?_⟩) hHeld ?_
      rotate_left
      · intro w hSw; obtain ⟨c0, c1⟩ := hSw; go_simp; try (with_reducible rfl)
      try simp only [Act.put]
      refine wpAnyG_take (i := 3) (v := ?_) rfl (by kernel_rfl) (fun _ _ _ h => h) (Or.inl ⟨by rfl, ?_⟩) hHeld ?_
      rotate_left
      · intro w hSw; obtain ⟨c0, c1⟩ := hSw; go_simp; try (with_reducible rfl)
      try simp only [Act.put]
      refine wpAnyG_take (i := 5) (v := ?_) rfl (by kernel_rfl) (fun _ _ _ h => h) (Or.inl ⟨by kernel_rfl, ?_⟩) hHeld ?_
      rotate_left
      · intro w hSw; obtain ⟨c0, c1⟩ := hSw; go_simp; try (with_reducible rfl)
      try simp only [Act.put]
      refine wpAnyG_take (i := 6) (v := ?_) rfl (by kernel_rfl) (fun _ _ _ h => h) (Or.inl ⟨by kernel_rfl, ?_⟩) hHeld ?_
      rotate_left
      · intro w hSw; obtain ⟨c0, c1⟩ := hSw; go_simp; try (with_reducible rfl)
      try simp only [Act.put]
      refine wpAnyG_ready (rs := [4]) (by kernel_rfl) (by simp) ?_
      refine AllReadyG.cons rfl (fun K hK => ?_) AllReadyG.nil
      rw [if_pos (by kernel_rfl)]
      go_simp
      have hp := clone_row (w := w2.drew) (a := a.add i) (M := P.drop i) (n := P.length - i) (c := cp - i) (by rw [List.length_drop]) (by omega) (row_drop (HP2.out.nob (Chg.refl _ _).drew) i)
      have Hp := Lib.hid hp
      clear hp
      (with_reducible refine Hp.out.mono ?_)
      clear Hp
      rintro e w3 ⟨hc3, v3, rfl, hrow3⟩
      have hc3 : Chg Nob w2 w3 := ((Chg.refl _ _).drew).trans1 hc3
      have hsz3 := hc3.size
      obtain ⟨a3, c3, rfl⟩ := ownsRow_shape hrow3
      have Hrow3 := Lib.hid hrow3
      have Hc3 := Lib.hid hc3
      have hH3 := hSx.out w3 hc3.any
      clear hrow3 hc3
      refine hK.out _ _ (fun _ => hSx.out _ Hc3.out.any) ?_
      clear hK K
      try simp only [Act.put, List.setIfInBounds_toArray]
      refine wpAnyG_ready (rs := [7]) (by kernel_rfl) (by simp) ?_
      refine AllReadyG.cons rfl (fun K hK => ?_) AllReadyG.nil
      rw [if_pos (by kernel_rfl)]
      go_simp
      have hp := clone_row (w := w3) (a := b) (M := L) (n := L.length) (c := cl) rfl (by omega) (fun j x hj => by obtain ⟨_, e, h⟩ := (HL2.out.nob Hc3.out) j x hj; cases e; exact h)
      have Hp := Lib.hid hp
      clear hp
      (with_reducible refine Hp.out.mono ?_)
      clear Hp
      rintro e w4 ⟨hc4, v4, rfl, hrow4⟩
      have hsz4 := hc4.size
      obtain ⟨a4, c4, rfl⟩ := ownsRow_shape hrow4
      have Hrow4 := Lib.hid hrow4
      have Hc4 := Lib.hid hc4
      have hH4 := hSx.out w4 (Hc3.out.trans1 hc4).any
      clear hrow4 hc4
      refine hK.out _ _ (fun _ => hSx.out _ (Hc3.out.trans1 Hc4.out).any) ?_
      clear hK K
      try simp only [Act.put, List.setIfInBounds_toArray]
      refine wpAnyG_take (i := 8) (v := ?_) rfl (by kernel_rfl) (fun _ _ _ h => h) (Or.inl ⟨by kernel_rfl, ?_⟩) hH4 ?_
      rotate_left
      · intro w hSw; obtain ⟨c0, c1⟩ := hSw; go_simp; try (with_reducible rfl)
      try simp only [Act.put, List.setIfInBounds_toArray]
      refine wpAnyG_ready (rs := [9]) (by kernel_rfl) (by simp) ?_
      refine AllReadyG.cons rfl (fun K hK => ?_) AllReadyG.nil
      rw [if_pos (by kernel_rfl)]
      have hb4 := (Hc3.out.trans1 Hc4.out).at Hb1'.out (fun e => e)
      obtain ⟨d0, d1, f0, f1⟩ := cell_two hb4
      have hcs : Chg (At1 (w.heap.size + 1)) w4 ((w4.setCell ⟨w.heap.size + 1, 0, none⟩ (Value.slice a3 (P.length - i) c3)).setCell ⟨w.heap.size + 1, 1, none⟩ (Value.slice a4 L.length c4)) := ((Chg.refl (At1 (w.heap.size + 1)) _).setCell (p := ⟨w.heap.size + 1, 0, none⟩) (fun _ => rfl) _).setCell (p := ⟨w.heap.size + 1, 1, none⟩) (fun _ => rfl) _
      have Hcs := Lib.hid hcs
      have hb5 := block_two_set1 (u := Value.slice a4 L.length c4) (block_two_set0 (u := Value.slice a3 (P.length - i) c3) hb4)
      have Hb5 := Lib.hid hb5
      have Hsz := Lib.hid hsz3
      have Hsz4 := Lib.hid hsz4
      have hH5 := hSx.out _ ((Hc3.out.trans1 Hc4.out).any.trans1 hcs)
      clear hcs hb5 hb4 hsz3 hsz4
      go_simp
      refine hK.out _ _ (fun _ => hH5) ?_
      clear hK K d0 d1 f0 f1
      try simp only [Act.put, List.setIfInBounds_toArray]
      refine wpAnyG_take (i := 10) (v := ?_) rfl (by kernel_rfl) (fun _ _ _ h => h) (Or.inl ⟨by kernel_rfl, ?_⟩) hH5 ?_
      rotate_left
      · intro w hSw; obtain ⟨c0, c1⟩ := hSw; go_simp; try (with_reducible rfl)
      try simp only [Act.put, List.setIfInBounds_toArray]
      refine wpAnyG_done (by kernel_rfl) ?_ _
      go_simp
      obtain ⟨e3, g3, h3, r3, q3⟩ := URow.own (M := P.drop i) Hrow3.out (by rw [List.length_drop])
      obtain ⟨e4, g4, h4, r4, q4⟩ := URow.own (M := L) Hrow4.out rfl
      rw [List.length_drop] at h3
      cases h3
      cases h4
      have Hc5 : Hid (Chg Nob w ((w4.setCell ⟨w.heap.size + 1, 0, none⟩ (Value.slice a3 (P.length - i) c3)).setCell ⟨w.heap.size + 1, 1, none⟩ (Value.slice a4 L.length c4))) := (show Chg Nob w _ from
        ((Hcw2.out.trans1 Hc3.out).trans1 Hc4.out).trans Hcs.out (fun i hi e => by have e : i = w.heap.size + 1 := e; omega))
      have Hr3 := Lib.hid ((r3.nob Hc4.out).chg Hcs.out (fun a e h => by have h : a.block = w.heap.size + 1 := h; have := q3 a e; have := Hsz.out; have hd : (w2.drew).heap.size = w2.heap.size := rfl; omega))
      have Hr4 := Lib.hid (r4.chg Hcs.out (fun a e h => by have h : a.block = w.heap.size + 1 := h; have := q4 a e; have := Hsz.out; omega))
      have hturn : (i - P.length) % L.length = 0 := by rw [Nat.sub_eq_zero_of_le hile, Nat.zero_mod]
      have Hfin : Hid (LasV ((w4.setCell ⟨w.heap.size + 1, 0, none⟩ (Value.slice a3 (P.length - i) c3)).setCell ⟨w.heap.size + 1, 1, none⟩ (Value.slice a4 L.length c4)) (sufP P L i) (sufL P L i) (.agg #[Value.slice a3 (P.length - i) c3, Value.slice a4 L.length c4])) := (show LasV _ _ _ _ by
        rw [Hs.out.1, Hs.out.2, hturn]
        have e0 : turned L 0 = L := by unfold turned; rw [List.drop_zero, List.take_zero, List.append_nil]
        rw [e0]
        exact ⟨a3, c3, a4, c4, by rw [List.length_drop], Hr3.out, Hr4.out⟩)
      clear hturn r3 r4 q3 q4 Hr3 Hr4
      go_wp2
      exact bodyPost_ret (results13 rfl rfl Hb5.out) rfl ⟨Hc5.out, _, by rw [Hn0.out], Hfin.out⟩
    · have hlti : ¬ (i : Int) < (P.length : Int) := by omega
      obtain ⟨y, hy⟩ : ∃ y, L[0]? = some y := ⟨_, List.getElem?_eq_getElem hl0⟩
      obtain ⟨b, rfl, _⟩ := HL2.out 0 y hy
      obtain ⟨k, hk⟩ : ∃ k, k = (i - P.length) % L.length := ⟨_, rfl⟩
      have hkl : k < L.length := by rw [hk]; exact Nat.mod_lt _ hl0
      have Hk := Lib.hid hk
      have hll0 : ¬ (L.length : Int) = 0 := by omega
      have hem : ((i : Int) - (P.length : Int)) % (L.length : Int) = (k : Int) := by
        rw [hk, Int.natCast_emod, Int.ofNat_sub (by omega)]
      have htm : ((i : Int) - (P.length : Int)).tmod (L.length : Int) = (k : Int) := by rw [Int.tmod_eq_emod_of_nonneg (by omega), hem]
      have hkle : k ≤ L.length := by omega
      have hklc : k ≤ cl := by omega
      have hcnk : ¬ cl = k := by omega
      have hk0 : (0 : Int) ≤ (k : Int) := by omega
      clear hk hy
      go_wp2_with fail
      refine wp_region_free (fun _ => true) (fun w' => w'.cell? ⟨w.heap.size, 0, none⟩ = some (.slice ap P.length cp) ∧ w'.cell? ⟨w.heap.size, 1, none⟩ = some (.slice (some b) L.length cl)) (by kernel_rfl) ⟨c0, c1⟩ (fun hHeld => ?_)
      refine wpAnyG_take (i := 0) (v := ?_) rfl (by kernel_rfl) (fun _ _ _ h => h) (Or.inl ⟨by rfl, ?_⟩) hHeld ?_
      rotate_left
      · intro w hSw; obtain ⟨c0, c1⟩ := hSw; go_simp; try (with_reducible rfl)
      try simp only [Act.put, List.setIfInBounds_toArray]
      refine wpAnyG_take (i := 1) (v := ?_) rfl (by kernel_rfl) (fun _ _ _ h => h) (Or.inl ⟨by rfl, ?_⟩) hHeld ?_
      rotate_left
      · intro w hSw; obtain ⟨c0, c1⟩ := hSw; go_simp; try (with_reducible rfl)
      try simp only [Act.put]
      refine wpAnyG_take (i := 2) (v := ?_) rfl (by kernel_rfl) (fun _ _ _ h => h) (Or.inl ⟨by rfl, ?_⟩) hHeld ?_
      rotate_left
      · intro w hSw; obtain ⟨c0, c1⟩ := hSw; go_simp; try (with_reducible rfl)
      try simp only [Act.put]
      refine wpAnyG_take (i := 3) (v := ?_) rfl (by kernel_rfl) (fun _ _ _ h => h) (Or.inl ⟨by rfl, ?_⟩) hHeld ?_
      rotate_left
      · intro w hSw; obtain ⟨c0, c1⟩ := hSw; go_simp; try (with_reducible rfl)
      try simp only [Act.put]
      refine wpAnyG_take (i := 5) (v := ?_) rfl (by kernel_rfl) (fun _ _ _ h => h) (Or.inl ⟨by kernel_rfl, ?_⟩) hHeld ?_
      rotate_left
      · intro w hSw; obtain ⟨c0, c1⟩ := hSw; go_simp; try (with_reducible rfl)
      try simp only [Act.put]
      refine wpAnyG_take (i := 6) (v := ?_) rfl (by kernel_rfl) (fun _ _ _ h => h) (Or.inl ⟨by kernel_rfl, ?_⟩) hHeld ?_
      rotate_left
      · intro w hSw; obtain ⟨c0, c1⟩ := hSw; go_simp; try (with_reducible rfl)
      try simp only [Act.put]
      refine wpAnyG_take (i := 7) (v := ?_) rfl (by kernel_rfl) (fun _ _ _ h => h) (Or.inl ⟨by kernel_rfl, ?_⟩) hHeld ?_
      rotate_left
      · intro w hSw; obtain ⟨c0, c1⟩ := hSw; go_simp; try (with_reducible rfl)
      try simp only [Act.put]
      refine wpAnyG_take (i := 8) (v := ?_) rfl (by kernel_rfl) (fun _ _ _ h => h) (Or.inl ⟨by kernel_rfl, ?_⟩) hHeld ?_
      rotate_left
      · intro w hSw; obtain ⟨c0, c1⟩ := hSw; go_simp; try (with_reducible rfl)
      try simp only [Act.put]
      refine wpAnyG_ready (rs := [4]) (by kernel_rfl) (by simp) ?_
      refine AllReadyG.cons rfl (fun K hK => ?_) AllReadyG.nil
      rw [if_pos (by kernel_rfl)]
      go_simp
      have hp := clone_row (w := w2.drew) (a := b.add k) (M := L.drop k) (n := L.length - k) (c := cl - k) (by rw [List.length_drop]) (by omega) (row_drop (HL2.out.nob (Chg.refl _ _).drew) k)
      have Hp := Lib.hid hp
      clear hp
      (with_reducible refine Hp.out.mono ?_)
      clear Hp
      rintro e w3 ⟨hc3, v3, rfl, hrow3⟩
      have hc3 : Chg Nob w2 w3 := ((Chg.refl _ _).drew).trans1 hc3
      have hsz3 := hc3.size
      have Hrow3 := Lib.hid hrow3
      have Hc3 := Lib.hid hc3
      have hH3 := hSx.out w3 hc3.any
      clear hrow3 hc3
      refine hK.out _ _ (fun _ => hSx.out _ Hc3.out.any) ?_
      clear hK K
      try simp only [Act.put, List.setIfInBounds_toArray]
      refine wpAnyG_ready (rs := [9]) (by kernel_rfl) (by simp) ?_
      refine AllReadyG.cons rfl (fun K hK => ?_) AllReadyG.nil
      rw [if_pos (by kernel_rfl)]
      obtain ⟨v4, w4, hrun, hrow4, hgr, _⟩ := append25 (a := b) (M := L.take k) cl Hrow3.out hsz3 (by rw [List.length_take]; omega) (row_take (HL2.out.nob Hc3.out) k)
      have hlt4 : (L.take k).length = k := by rw [List.length_take]; omega
      have hln4 : L.length - k + (L.take k).length = L.length := by rw [hlt4]; omega
      rw [hlt4] at hrun
      rw [hln4] at hrow4
      have hsz4 : w2.heap.size ≤ w4.heap.size := Nat.le_trans hsz3 hgr.size
      have hc4 : Chg Nob w2 w4 := Hc3.out.trans (S' := fun b => v3.ownBlock = some b) ((Chg.refl _ _).grown hgr (fun k e _ => e)) (fun i hi e => by have := (Hrow3.out.lt i e).1; have hd : (w2.drew).heap.size = w2.heap.size := rfl; omega)
      obtain ⟨a4, c4, rfl⟩ := ownsRow_shape hrow4
      have Hrow4 := Lib.hid hrow4
      have Hc4 := Lib.hid hc4
      have hH4 := hSx.out w4 hc4.any
      refine wp_append_known (.tmp 43) (.tmp 47) 22 22 rfl _ _ rfl rfl _ _ hrun ?_
      clear hrow4 hc4 hrun hlt4 hln4 hgr
      refine hK.out _ _ (fun _ => hH4) ?_
      clear hK K
      try simp only [Act.put, List.setIfInBounds_toArray]
      refine wpAnyG_take (i := 10) (v := ?_) rfl (by kernel_rfl) (fun _ _ _ h => h) (Or.inl ⟨by kernel_rfl, ?_⟩) hH4 ?_
      rotate_left
      · intro w hSw; obtain ⟨c0, c1⟩ := hSw; go_simp; try (with_reducible rfl)
      try simp only [Act.put]
      refine wpAnyG_ready (rs := [11]) (by kernel_rfl) (by simp) ?_
      refine AllReadyG.cons rfl (fun K hK => ?_) AllReadyG.nil
      rw [if_pos (by kernel_rfl)]
      have hb4 := (Hc4.out).at Hb1'.out (fun e => e)
      obtain ⟨d0, d1, f0, f1⟩ := cell_two hb4
      have hcs : Chg (At1 (w.heap.size + 1)) w4 ((w4.setCell ⟨w.heap.size + 1, 0, none⟩ (Value.slice none 0 0)).setCell ⟨w.heap.size + 1, 1, none⟩ (Value.slice a4 L.length c4)) := ((Chg.refl (At1 (w.heap.size + 1)) _).setCell (p := ⟨w.heap.size + 1, 0, none⟩) (fun _ => rfl) _).setCell (p := ⟨w.heap.size + 1, 1, none⟩) (fun _ => rfl) _
      have Hcs := Lib.hid hcs
      have hb5 := block_two_set1 (u := Value.slice a4 L.length c4) (block_two_set0 (u := Value.slice none 0 0) hb4)
      have Hb5 := Lib.hid hb5
      have Hsz := Lib.hid hsz3
      have Hsz4 := Lib.hid hsz4
      have hH5 := hSx.out _ ((Hc4.out).any.trans1 hcs)
      clear hcs hb5 hb4 hsz3 hsz4
      go_simp
      refine hK.out _ _ (fun _ => hH5) ?_
      clear hK K d0 d1 f0 f1
      try simp only [Act.put, List.setIfInBounds_toArray]
      refine wpAnyG_take (i := 12) (v := ?_) rfl (by kernel_rfl) (fun _ _ _ h => h) (Or.inl ⟨by kernel_rfl, ?_⟩) hH5 ?_
      rotate_left
      · intro w hSw; obtain ⟨c0, c1⟩ := hSw; go_simp; try (with_reducible rfl)
      try simp only [Act.put, List.setIfInBounds_toArray]
      refine wpAnyG_done (by kernel_rfl) ?_ _
      go_simp
      obtain ⟨e4, g4, h4, r4, q4⟩ := URow.own (M := turned L k) (by have := Hrow4.out; rwa [show uvs (L.drop k) ++ uvs (L.take k) = uvs (turned L k) by unfold uvs turned; rw [List.map_append]] at this) (by rw [turned_length _ hkle])
      rw [turned_length _ hkle] at h4
      cases h4
      have Hc5 : Hid (Chg Nob w ((w4.setCell ⟨w.heap.size + 1, 0, none⟩ (Value.slice none 0 0)).setCell ⟨w.heap.size + 1, 1, none⟩ (Value.slice a4 L.length c4))) := (show Chg Nob w _ from
        (Hcw2.out.trans1 Hc4.out).trans Hcs.out (fun i hi e => by have e : i = w.heap.size + 1 := e; omega))
      have Hr4 := Lib.hid (r4.chg Hcs.out (fun a e h => by have h : a.block = w.heap.size + 1 := h; have := q4 a e; have hd : (w2.drew).heap.size = w2.heap.size := rfl; omega))
      have Hfin : Hid (LasV ((w4.setCell ⟨w.heap.size + 1, 0, none⟩ (Value.slice none 0 0)).setCell ⟨w.heap.size + 1, 1, none⟩ (Value.slice a4 L.length c4)) (sufP P L i) (sufL P L i) (.agg #[Value.slice none 0 0, Value.slice a4 L.length c4])) := (show LasV _ _ _ _ by
        rw [Hs.out.1, Hs.out.2, ← Hk.out, List.drop_eq_nil_of_le (by omega)]
        exact ⟨none, 0, a4, c4, by rw [turned_length _ hkle]; rfl, .nil _ _, Hr4.out⟩)
      clear r4 q4 Hr4 hem htm hll0 hcnk hklc hkle hk0 hkl hH5 hH4 hH3 hHeld
      go_wp2
      exact bodyPost_ret (results13 rfl rfl Hb5.out) rfl ⟨Hc5.out, _, by rw [Hn0.out], Hfin.out⟩
end
end Go.Proofs.Ytkgfdgfhpdhhaaa
