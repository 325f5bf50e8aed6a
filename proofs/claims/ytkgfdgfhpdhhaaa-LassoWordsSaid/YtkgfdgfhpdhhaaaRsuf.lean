/- A lasso's suffix, by the reference. Conditions: the rows lie in the world, they are short. -/
import Derived.Test.YtkgfdgfhpdhhaaaLsuf
namespace Go.Proofs.Ytkgfdgfhpdhhaaa
open Go.ChangeShapes Go.WideShapes Go.RowKit

theorem take_get {L : List Int} {k : Nat} {x : Int} (h : L[k]? = some x) : L.take (k + 1) = L.take k ++ [x] := by
  rw [List.take_add_one, h]; rfl
theorem results14 {rb : Nat} {c : Int} {tm : Array Value} {w : World} {x y : Value} (h4 : tm[4]? = some (.pointer (some ⟨rb, 0, none⟩))) (h5 : tm[5]? = some (.int .i64 c)) (hb : w.heap[rb]? = some (.cells #[x, y] 24 (0, 0))) :
    (results Try.f14 tm).run Try.prog w = .ok (.tuple #[.agg #[x, y], .int .i64 c]) w := by
  have c0 := (cell_two hb).1
  have c1 := (cell_two hb).2.1
  simp [results, Try.results14, go_sem, h4, h5, c0, c1]
/-- One letter behind a row. -/
theorem append_one25 {B : Nat} {w : World} {v : Value} {n : Nat} {xs : List Int} (x : Int) (h : w.ownsRow B 25 1 v n (uvs xs)) (hB : B ≤ w.heap.size) (hn : n ≤ 20000) :
    ∃ v' w', (Builtin.append_ #[22, 22] 22 #[v, .slice (some ⟨w.heap.size, 0, none⟩) 1 1]).run Try.prog (w.alloc (.cells #[.int .u64 x] 25)) = .ok v' w' ∧ w'.ownsRow B 25 1 v' (n + 1) (uvs (xs ++ [x])) ∧ (w.alloc (.cells #[.int .u64 x] 25)).grownBy w' v.ownBlock := by
  obtain ⟨v', w', h1, h2, h3, _⟩ := append25 (M := [x]) (w := w.alloc (.cells #[.int .u64 x] 25)) (a := ⟨w.heap.size, 0, none⟩) 1 (ownsRow_chg h ((Chg.refl Nob w).alloc _) (fun _ _ e => e)) (by rw [World.size_alloc]; omega) (by rw [List.length_singleton]; omega)
    (fun j u hj => by
      match j, hj with
      | 0, hj => cases hj; exact news_one w (.int .u64 x) 25 0 _ rfl)
  refine ⟨v', w', h1, ?_, h3⟩
  rw [show uvs (xs ++ [x]) = uvs xs ++ uvs [x] by unfold uvs; rw [List.map_append]]
  exact h2
theorem ownsRow_drew {w : World} {B : Nat} {e : TypeId} {z : Nat} {v : Value} {n : Nat} {xs : List Value} (h : w.ownsRow B e z v n xs) : w.drew.ownsRow B e z v n xs := h
theorem ownsRow_zero (w : World) (B e z : Nat) : w.ownsRow B e z (.slice none 0 0) 0 [] := World.ownsRow_nil _ _ _ _
theorem own_len {w : World} {B n : Nat} {v : Value} {M : List Int} (h : w.ownsRow B 25 1 v n (uvs M)) : M.length = n := by
  have := h.1
  unfold uvs at this
  rw [List.length_map] at this
  omega
theorem chg_two' (w : World) (b : Nat) (u0 u1 : Value) : Chg (At1 b) w ((w.setCell ⟨b, 0, none⟩ u0).setCell ⟨b, 1, none⟩ u1) :=
  ((Chg.refl (At1 b) w).setCell (p := ⟨b, 0, none⟩) (fun _ => rfl) _).setCell (p := ⟨b, 1, none⟩) (fun _ => rfl) _
section
variable {ap al : Option Addr} {cp cl : Nat} {P L : List Int} {w : World}
set_option maxRecDepth 100000 in
set_option maxHeartbeats 8000000 in
theorem rsuffix_any (hl : P.length + L.length ≤ 10000) (hP : URow w ap P) (hL : URow w al L) (i : Nat) (hi : i < 18446744073709551616) :
    Calls Try.prog 14 #[.agg #[.slice ap P.length cp, .slice al L.length cl], .int .u64 (i : Int)] w (LasPost (sufP P L i) (sufL P L i) (lcheckN P.length L.length) w) := by
  obtain ⟨X, hX, hcX, hb0, hb1⟩ : ∃ X, X = (w.alloc (.cells #[.slice ap P.length cp, .slice al L.length cl] 24)).alloc (.cells #[.slice none 0 0, .slice none 0 0] 24) ∧ Chg Nob w X ∧ X.heap[w.heap.size]? = some (.cells #[.slice ap P.length cp, .slice al L.length cl] 24 (0, 0)) ∧ X.heap[w.heap.size + 1]? = some (.cells #[.slice none 0 0, .slice none 0 0] 24 (0, 0)) := by
    have h1 := heap_alloc_new (w.alloc (.cells #[.slice ap P.length cp, .slice al L.length cl] 24)) (.cells #[.slice none 0 0, .slice none 0 0] 24)
    rw [World.size_alloc] at h1
    exact ⟨_, rfl, ((Chg.refl _ _).alloc _).alloc _, ((Chg.refl Nob _).alloc _).at (heap_alloc_new w _) (fun e => e), h1⟩
  have hck := rlcheck_any (cp := cp) (cl := cl) (ap := ap) (al := al) (w := X) P.length L.length hl
  have HPX := Lib.hid (hP.nob hcX)
  have HLX := Lib.hid (hL.nob hcX)
  have HcX := Lib.hid hcX
  have Hb0 := Lib.hid hb0
  have Hb1 := Lib.hid hb1
  obtain ⟨c0, c1, _⟩ := cell_two hb0
  rw [hX] at c0 c1
  obtain ⟨n, hn⟩ : ∃ n, n = lcheckN P.length L.length := ⟨_, rfl⟩
  rw [← hn] at hck ⊢
  have Hn := Lib.hid hn
  clear hP hL hcX hb0 hb1 hn
  go_enter Try.func14, Try.ntmps14
  go_wp2_with fail
  rw [← hX]
  clear hX c0 c1
  (with_reducible refine hck.mono ?_)
  clear hck
  rintro e w2 ⟨rfl, hc2⟩
  cases h0 : (n == 0) with
  | false =>
    have hne : (n != 0) = true := by rw [bne, h0]; rfl
    have Hs : Hid (sufP P L i = [] ∧ sufL P L i = []) := (show sufP P L i = [] ∧ sufL P L i = [] by
      unfold sufP sufL
      have : ¬ lcheckN P.length L.length = 0 := by rw [← Hn.out]; exact beq_eq_false_iff_ne.1 h0
      rw [if_neg this, if_neg this]; exact ⟨rfl, rfl⟩)
    obtain ⟨d0, d1, f0, f1⟩ := cell_two (hc2.at Hb1.out (fun e => e))
    have hb := hc2.at Hb1.out (fun e => e)
    have Hb := Lib.hid (block_two_set1 (u := .slice none 0 0) (block_two_set0 (u := .slice none 0 0) hb))
    have Hc : Hid (Chg Nob w ((w2.setCell ⟨w.heap.size + 1, 0, none⟩ (.slice none 0 0)).setCell ⟨w.heap.size + 1, 1, none⟩ (.slice none 0 0))) :=
      (HcX.out.trans1 hc2).trans (S' := At1 (w.heap.size + 1)) (((Chg.refl (At1 (w.heap.size + 1)) _).setCell (p := ⟨w.heap.size + 1, 0, none⟩) (fun _ => rfl) _).setCell (p := ⟨w.heap.size + 1, 1, none⟩) (fun _ => rfl) _) (fun i hi e => by have e : i = w.heap.size + 1 := e; omega)
    clear hb hc2
    go_wp2
    exact bodyPost_ret (results14 rfl rfl Hb.out) rfl ⟨Hc.out, _, rfl, by rw [Hs.out.1, Hs.out.2]; exact .nil _⟩
  | true =>
    have hne : (n != 0) = false := by rw [bne, h0]; rfl
    have hck : lcheckN P.length L.length = 0 := by rw [← Hn.out]; exact beq_iff_eq.1 h0
    obtain ⟨hl0, hl1⟩ := lcheck_ok (np := P.length) (nl := L.length) (by rw [← Hn.out]; exact h0)
    have Hs : Hid (sufP P L i = P.drop i ∧ sufL P L i = turned L ((i - P.length) % L.length)) := (show _ ∧ _ by
      unfold sufP sufL
      rw [if_pos hck, if_pos hck]; exact ⟨rfl, rfl⟩)
    have Hn0 : Hid (n = 0) := beq_iff_eq.1 h0
    have hsz : w.heap.size + 2 ≤ w2.heap.size := by
      have h := World.block_lt_of_cell? w2 ⟨w.heap.size + 1, 0, none⟩ (cell_two (hc2.at Hb1.out (fun e => e))).1
      have h : w.heap.size + 1 < w2.heap.size := h
      omega
    obtain ⟨Y, hY, hcY, hsY, hbY⟩ := box_two w2 (.slice none 0 0) (.slice none 0 0)
    have hc2Y := hc2.trans1 hcY
    have HPb : Hid (∀ k x a, P[k]? = some x → ap = some a → a.block < w2.heap.size) := (show ∀ k x a, P[k]? = some x → ap = some a → a.block < w2.heap.size from fun k x a hx ha => by
      obtain ⟨a', e, hc⟩ := (HPX.out.nob hc2) k x hx
      rw [ha] at e
      cases e
      have := World.block_lt_of_cell? w2 _ hc
      rwa [addr_block] at this)
    have HLb : Hid (∀ k x a, L[k]? = some x → al = some a → a.block < w2.heap.size) := (show ∀ k x a, L[k]? = some x → al = some a → a.block < w2.heap.size from fun k x a hx ha => by
      obtain ⟨a', e, hc⟩ := (HLX.out.nob hc2) k x hx
      rw [ha] at e
      cases e
      have := World.block_lt_of_cell? w2 _ hc
      rwa [addr_block] at this)
    have HP := Lib.hid (HPX.out.nob hc2Y)
    have HL := Lib.hid (HLX.out.nob hc2Y)
    have HcwY := Lib.hid (HcX.out.trans1 hc2Y)
    have HbD := Lib.hid hbY
    have Hb0 := Lib.hid (hc2Y.at Hb0.out (fun e => e))
    have Hb1 := Lib.hid (hc2Y.at Hb1.out (fun e => e))
    have hii : (0 : Int) ≤ (i : Int) := by omega
    have hii2 : (i : Int) < 18446744073709551616 := by omega
    have hpl : (P.length : Int) ≤ 10000 := by omega
    have hll : (L.length : Int) ≤ 10000 := by omega
    obtain ⟨c0, c1, _⟩ := cell_two Hb0.out
    rw [hY] at c0 c1
    obtain ⟨y, hy⟩ : ∃ y, L[0]? = some y := ⟨_, List.getElem?_eq_getElem hl0⟩
    obtain ⟨b, rfl, _⟩ := HL.out 0 y hy
    have HsY := Lib.hid hsY
    clear hck hcY hbY hc2 hc2Y HPX HLX HcX h0 Hn hl1 hy hsY
    go_wp2_with fail
    rw [← hY]
    clear hY c0 c1
    obtain ⟨c0, c1, _⟩ := cell_two Hb0.out
    have hY0 : w2.heap.size < Y.heap.size := by have := HsY.out; omega
    go_loopw [8] (fun kv wr => ∃ k : Nat, kv = .int .u64 (k : Int) ∧ i ≤ k ∧ (k ≤ P.length ∨ k = i) ∧ ∃ v, Hid (wr.heap[w2.heap.size]? = some (.cells #[v, .slice none 0 0] 24 (0, 0))) ∧ Hid (wr.ownsRow Y.heap.size 25 1 v (k - i) (uvs ((P.drop i).take (k - i)))) ∧ Chg (At1 w2.heap.size) Y wr) (fun kv _ => P.length - (intOf kv).toNat)
    case atStart => exact ⟨i, rfl, Nat.le_refl _, .inr rfl, _, HbD.out, (by rw [Nat.sub_self]; exact ownsRow_zero _ _ _ _), Chg.refl _ _⟩
    case round =>
      obtain ⟨k, rfl, hk1, hk2, v, hbD, hrow, hcr⟩ := hrel
      clear c0 c1
      obtain ⟨ao, cc, rfl⟩ := ownsRow_shape hrow.out
      have hleR := hcr.size
      have hvb : Hid (∀ b, (Value.slice ao (k - i) cc).ownBlock = some b → Y.heap.size ≤ b ∧ b ≠ w2.heap.size) := (show ∀ b, (Value.slice ao (k - i) cc).ownBlock = some b → Y.heap.size ≤ b ∧ b ≠ w2.heap.size from ownsRow_ne_type hrow.out hbD.out (by decide))
      have hlw : w.heap.size < w2.heap.size := by omega
      obtain ⟨c0, c1, _⟩ := cell_two (hcr.at Hb0.out (fun e => by have e : w.heap.size = w2.heap.size := e; omega))
      obtain ⟨d0, _⟩ := cell_two hbD.out
      have hk0 : (0 : Int) ≤ (k : Int) := by omega
      by_cases hlt : k < P.length
      · obtain ⟨x, hx⟩ : ∃ x, P[k]? = some x := ⟨_, List.getElem?_eq_getElem hlt⟩
        obtain ⟨a, rfl, hcx⟩ := HP.out k x hx
        have habl : (a.add k).block < Y.heap.size := World.block_lt_of_cell? Y _ hcx
        have hxr := hcr.cell' hcx (fun e => by have e : (a.add k).block = w2.heap.size := e; rw [addr_block] at e; have := HPb.out k x a hx rfl; omega)
        have hki : (k : Int) < (P.length : Int) := by omega
        have hnx : Hid ((P.drop i).take (k + 1 - i) = (P.drop i).take (k - i) ++ [x]) := (show (P.drop i).take (k + 1 - i) = (P.drop i).take (k - i) ++ [x] by
          rw [show k + 1 - i = k - i + 1 by omega]
          refine take_get ?_
          rw [List.getElem?_drop, show i + (k - i) = k by omega, hx])
        have hSx : Hid (∀ w', Chg (fun b => (Value.slice ao (k - i) cc).ownBlock = some b) wr w' → w'.cell? ⟨w.heap.size, 0, none⟩ = some (.slice (some a) P.length cp) ∧ w'.cell? ⟨w.heap.size, 1, none⟩ = some (.slice (some b) L.length cl) ∧ w'.cell? ⟨w2.heap.size, 0, none⟩ = some (.slice ao (k - i) cc) ∧ w'.cell? (a.add k) = some (.int .u64 x)) := fun w' h => by
          refine ⟨h.cell' c0 (fun e => by have := (hvb.out _ e).1; have hh : w.heap.size < w2.heap.size := hlw; simp only at this; omega), h.cell' c1 (fun e => by have := (hvb.out _ e).1; simp only at this; omega), h.cell' d0 (fun e => (hvb.out _ e).2 rfl), h.cell' hxr (fun e => by have := (hvb.out _ e).1; omega)⟩
        clear hx hcx
        go_wp2_with fail
        have hx := hxr
        refine wp_region_free (fun j => j != 10) (fun w' => w'.cell? ⟨w.heap.size, 0, none⟩ = some (.slice (some a) P.length cp) ∧ w'.cell? ⟨w.heap.size, 1, none⟩ = some (.slice (some b) L.length cl) ∧ w'.cell? ⟨w2.heap.size, 0, none⟩ = some (.slice ao (k - i) cc) ∧ w'.cell? (a.add k) = some (.int .u64 x)) (by kernel_rfl) ⟨c0, c1, d0, hx⟩ (fun hHeld => ?_)
        refine wpAnyG_take (i := 0) (v := ?_) rfl (by kernel_rfl) (fun _ _ _ h => h) (Or.inl ⟨by rfl, ?_⟩) hHeld ?_
        rotate_left
        · intro w hSw; obtain ⟨c0, c1, d0, hx⟩ := hSw; go_simp; (try (with_reducible rfl))
        simp only [Act.put, List.setIfInBounds_toArray]
        refine wpAnyG_take (i := 1) (v := ?_) rfl (by kernel_rfl) (fun _ _ _ h => h) (Or.inl ⟨by rfl, ?_⟩) hHeld ?_
        rotate_left
        · intro w hSw; obtain ⟨c0, c1, d0, hx⟩ := hSw; go_simp; (try (with_reducible rfl))
        try simp only [Act.put]
        refine wpAnyG_take (i := 2) (v := ?_) rfl (by kernel_rfl) (fun _ _ _ h => h) (Or.inl ⟨by rfl, ?_⟩) hHeld ?_
        rotate_left
        · intro w hSw; obtain ⟨c0, c1, d0, hx⟩ := hSw; go_simp; (try (with_reducible rfl))
        try simp only [Act.put]
        refine wpAnyG_take (i := 3) (v := ?_) rfl (by kernel_rfl) (fun _ _ _ h => h) (Or.inl ⟨by rfl, ?_⟩) hHeld ?_
        rotate_left
        · intro w hSw; obtain ⟨c0, c1, d0, hx⟩ := hSw; go_simp; (try (with_reducible rfl))
        try simp only [Act.put]
        refine wpAnyG_take (i := 4) (v := ?_) rfl (by kernel_rfl) (fun _ _ _ h => h) (Or.inl ⟨by kernel_rfl, ?_⟩) hHeld ?_
        rotate_left
        · intro w hSw; obtain ⟨c0, c1, d0, hx⟩ := hSw; go_simp; (try (with_reducible rfl))
        try simp only [Act.put]
        refine wpAnyG_take (i := 5) (v := ?_) rfl (by kernel_rfl) (fun _ _ _ h => h) (Or.inl ⟨by kernel_rfl, ?_⟩) hHeld ?_
        rotate_left
        · intro w hSw; obtain ⟨c0, c1, d0, hx⟩ := hSw; go_simp; (try (with_reducible rfl))
        try simp only [Act.put]
        refine wpAnyG_take (i := 6) (v := ?_) rfl (by kernel_rfl) (fun _ _ _ h => h) (Or.inl ⟨by kernel_rfl, ?_⟩) hHeld ?_
        rotate_left
        · intro w hSw; obtain ⟨c0, c1, d0, hx⟩ := hSw; go_simp; (try (with_reducible rfl))
        try simp only [Act.put]
        refine wpAnyG_ready (rs := [7]) (by kernel_rfl) (by simp) ?_
        refine AllReadyG.cons rfl (fun K hK => ?_) AllReadyG.nil
        rw [if_pos (by kernel_rfl)]
        have hhn : (k - i) ≤ 20000 := by omega
        have hhr := ownsRow_drew hrow.out
        have hle : Y.heap.size ≤ wr.drew.heap.size := hleR
        have hh2 := append_one25 (w := wr.drew) (xs := (P.drop i).take (k - i)) x hhr hle hhn
        obtain ⟨v', W', hh3⟩ := hh2
        have hrun := hh3.1
        have hrow' := hh3.2.1
        have hgr := hh3.2.2
        clear hh3 hhn hle hhr
        have hrun : (Builtin.append_ #[22, 22] 22 #[Value.slice ao (k - i) cc, .slice (some ⟨wr.heap.size, 0, none⟩) 1 1]).run Try.prog ((wr.alloc (.cells #[.int .u64 x] 25)).drew) = .ok v' W' := hrun
        have hal : Chg (fun b => (Value.slice ao (k - i) cc : Value).ownBlock = some b) wr.drew ((wr.alloc (.cells #[.int .u64 x] 25)).drew) := (Chg.refl _ _).alloc _
        have hcW' : Chg (fun b => (Value.slice ao (k - i) cc : Value).ownBlock = some b) wr.drew W' := ((Chg.refl _ _).alloc _).grown hgr (fun k e _ => e)
        have hH1 := hSx.out _ ((Chg.refl _ _).drew.trans1 hal)
        have hH2 := hSx.out W' ((Chg.refl _ _).drew.trans1 hcW')
        have Hrun := Lib.hid hrun
        have HrowN := Lib.hid hrow'
        have HcW' := Lib.hid ((Chg.refl _ _).drew.trans1 hcW')
        have hsh := ownsRow_shape hrow'
        obtain ⟨ao', hsh⟩ := hsh
        obtain ⟨cc', hsh⟩ := hsh
        subst hsh
        clear hrun hrow' hcW' hgr hal
        go_simp
        refine hK.out _ _ (fun _ => hH1) ?_
        clear hK K
        try simp only [Act.put]
        refine wpAnyG_ready (rs := [8]) (by kernel_rfl) (by simp) ?_
        refine AllReadyG.cons rfl (fun K hK => ?_) AllReadyG.nil
        rw [if_pos (by kernel_rfl)]
        refine wp_append_known (.tmp 28) (.tmp 34) 22 22 rfl _ _ rfl rfl _ _ Hrun.out ?_
        refine hK.out _ _ (fun _ => hH2) ?_
        clear hK K
        try simp only [Act.put]
        refine wpAnyG_take (i := 9) (v := ?_) rfl (by kernel_rfl) (fun _ _ _ h => h) (Or.inl ⟨by kernel_rfl, ?_⟩) hH2 ?_
        rotate_left
        · intro w hSw; obtain ⟨c0, c1, d0, hx⟩ := hSw; go_simp; (try (with_reducible rfl))
        try simp only [Act.put]
        refine wpAnyG_ready (rs := [10]) (by kernel_rfl) (by simp) ?_
        refine AllReadyG.cons rfl (fun K hK => ?_) AllReadyG.nil
        rw [if_pos (by kernel_rfl)]
        have hbD' := HcW'.out.at hbD.out (fun e => (hvb.out _ e).2 rfl)
        have hct := cell_two hbD'
        have d0 := hct.1
        have d1 := hct.2.1
        have f0 := hct.2.2.1
        have f1 := hct.2.2.2
        clear hct
        have hset : Chg (At1 (w2.heap.size)) W' (W'.setCell ⟨w2.heap.size, 0, none⟩ (.slice ao' ((k - i) + 1) cc')) := (Chg.refl (At1 (w2.heap.size)) _).setCell (p := ⟨w2.heap.size, 0, none⟩) (fun _ => rfl) _
        have HbDN := Lib.hid (block_two_set0 (u := .slice ao' ((k - i) + 1) cc') hbD')
        have HrowF := Lib.hid (ownsRow_chg HrowN.out hset (fun k hk e => (ownsRow_ne_type HrowN.out hbD' (by decide) k hk).2 e))
        have HcN : Hid (Chg (At1 (w2.heap.size)) Y (W'.setCell ⟨w2.heap.size, 0, none⟩ (.slice ao' ((k - i) + 1) cc'))) := (show Chg (At1 (w2.heap.size)) Y _ from ((hcr).trans (S := At1 (w2.heap.size)) HcW'.out (fun i hi e => absurd (hvb.out _ e).1 (by omega))).trans1 hset)
        clear hset hbD'
        go_simp
        refine hK.out _ _ (fun h => absurd h (by decide)) ?_
        clear hK K d0 d1 f0 f1
        try simp only [Act.put]
        refine wpAnyG_done (by kernel_rfl) ?_ _
        go_simp
        go_wp2_with fail
        go_roundw
        case rel => exact ⟨k + 1, by go_num, by omega, .inl hlt, _, HbDN.out, (by rw [hnx.out, show k + 1 - i = k - i + 1 by omega]; exact HrowF.out), HcN.out⟩
        case measure => simp [intOf]; omega
      · obtain ⟨k1, hk1e⟩ : ∃ k1, k1 = k - i := ⟨_, rfl⟩
        have HrowP : Hid (wr.ownsRow Y.heap.size 25 1 (.slice ao k1 cc) k1 (uvs (P.drop i))) := (show wr.ownsRow Y.heap.size 25 1 (.slice ao k1 cc) k1 (uvs (P.drop i)) by
          have h := hrow.out
          rw [← hk1e] at h
          have e : (P.drop i).take k1 = P.drop i := by
            refine List.take_of_length_le ?_
            rw [List.length_drop]
            omega
          rwa [e] at h)
        rw [← hk1e] at hbD
        obtain ⟨W1, hW1⟩ : ∃ W1, W1 = wr := ⟨_, rfl⟩
        have hk1l : k1 ≤ 20000 := by omega
        have HW1 : Hid (W1 = wr) := hW1
        clear hk1e hrow hvb
        rw [← hW1] at hbD HrowP hcr hleR c0 c1
        have hkn : ¬ (k : Int) < (P.length : Int) := by omega
        have HcW1 := Lib.hid hcr
        have HbDW := Lib.hid hbD.out
        obtain ⟨aoP, haoP⟩ : ∃ aoP, aoP = ao := ⟨_, rfl⟩
        obtain ⟨ccP, hccP⟩ : ∃ ccP, ccP = cc := ⟨_, rfl⟩
        rw [← haoP, ← hccP] at HbDW HrowP hbD d0
        clear hbD d0 haoP hccP
        have d0 := (cell_two HbDW.out).1
        have d1 := (cell_two HbDW.out).2.1
        rw [hW1] at d0 d1 c0 c1
        have hll0 : ¬ (L.length : Int) = 0 := by omega
        have hLne : ¬ L = [] := List.length_pos_iff.1 hl0
        by_cases hin : i < P.length
        · have hini : (i : Int) < (P.length : Int) := by omega
          obtain ⟨r, hr⟩ : ∃ r, r = (i - P.length) % L.length := ⟨_, rfl⟩
          have hrl : r < L.length := by rw [hr]; exact Nat.mod_lt _ hl0
          have Hr := Lib.hid hr
          have hr0 : Hid (r = 0) := (show r = 0 by rw [hr, Nat.sub_eq_zero_of_le (by omega), Nat.zero_mod])
          clear hr
          go_wp2_with fail
          rw [← hW1]
          clear hW1 d0 d1 c0 c1
          obtain ⟨c0, c1, _⟩ := cell_two (HcW1.out.at Hb0.out (fun e => by have e : w.heap.size = w2.heap.size := e; omega))
          go_loopw [11] (fun kv wr => ∃ k : Nat, kv = .int .i64 (k : Int) ∧ k ≤ L.length ∧ ∃ v, Hid (wr.heap[w2.heap.size]? = some (.cells #[.slice aoP k1 ccP, v] 24 (0, 0))) ∧ Hid (wr.ownsRow W1.heap.size 25 1 v k (uvs ((turned L r).take k))) ∧ Chg (At1 w2.heap.size) W1 wr) (fun kv _ => L.length - (intOf kv).toNat)
          case atStart => exact ⟨0, rfl, Nat.zero_le _, _, HbDW.out, (by rw [List.take_zero]; exact ownsRow_zero _ _ _ _), Chg.refl _ _⟩
          case round =>
            clear hcr hleR hk1 hk2 hlt hkn hk0
            obtain ⟨k, rfl, hkl, v, hbD, hrow, hcr⟩ := hrel
            clear c0 c1
            obtain ⟨ao, cc, rfl⟩ := ownsRow_shape hrow.out
            have hleR := hcr.size
            have hW1s := HcW1.out.size
            have hvb : Hid (∀ b, (Value.slice ao k cc).ownBlock = some b → W1.heap.size ≤ b ∧ b ≠ w2.heap.size) := (show ∀ b, (Value.slice ao k cc).ownBlock = some b → W1.heap.size ≤ b ∧ b ≠ w2.heap.size from ownsRow_ne_type hrow.out hbD.out (by decide))
            obtain ⟨c0, c1, _⟩ := cell_two (hcr.at (HcW1.out.at Hb0.out (fun e => by have e : w.heap.size = w2.heap.size := e; omega)) (fun e => by have e : w.heap.size = w2.heap.size := e; omega))
            obtain ⟨_, d1, _⟩ := cell_two hbD.out
            by_cases hlt : k < L.length
            · obtain ⟨q, hq⟩ : ∃ q, q = (r + k) % L.length := ⟨_, rfl⟩
              have hql : q < L.length := by rw [hq]; exact Nat.mod_lt _ hl0
              obtain ⟨x, hx⟩ : ∃ x, L[q]? = some x := ⟨_, List.getElem?_eq_getElem hql⟩
              obtain ⟨_, e, hcx⟩ := HL.out q x hx
              cases e
              have habl : (b.add q).block < w2.heap.size := by rw [addr_block]; exact HLb.out q x b hx rfl
              have hxr := hcr.cell' (HcW1.out.cell' hcx (fun e => by have e : (b.add q).block = w2.heap.size := e; omega)) (fun e => by have e : (b.add q).block = w2.heap.size := e; omega)
              have hki : (k : Int) < (L.length : Int) := by omega
              have hk0 : (0 : Int) ≤ (k : Int) := by omega
              have hnx : Hid ((turned L r).take (k + 1) = (turned L r).take k ++ [x]) := (show (turned L r).take (k + 1) = (turned L r).take k ++ [x] from take_get (by rw [turned_at L hrl hlt, ← hq, hx]))
              have hSx : Hid (∀ w', Chg (fun b => (Value.slice ao k cc).ownBlock = some b) wr w' → w'.cell? ⟨w.heap.size, 0, none⟩ = some (.slice ap P.length cp) ∧ w'.cell? ⟨w.heap.size, 1, none⟩ = some (.slice (some b) L.length cl) ∧ w'.cell? ⟨w2.heap.size, 1, none⟩ = some (.slice ao k cc) ∧ w'.cell? (b.add q) = some (.int .u64 x)) := fun w' h => by
                refine ⟨h.cell' c0 (fun e => by have := (hvb.out _ e).1; simp only at this; omega), h.cell' c1 (fun e => by have := (hvb.out _ e).1; simp only at this; omega), h.cell' d1 (fun e => (hvb.out _ e).2 rfl), h.cell' hxr (fun e => by have := (hvb.out _ e).1; omega)⟩
              have hqk : q = k := by rw [hq, hr0.out, Nat.zero_add, Nat.mod_eq_of_lt hlt]
              have hem : (k : Int) % (L.length : Int) = (q : Int) := by rw [hqk, Int.emod_eq_of_lt (by omega) (by omega)]
              have htm : (k : Int).tmod (L.length : Int) = (q : Int) := by rw [Int.tmod_eq_emod_of_nonneg (by omega), hem]
              clear hqk
              have hq0 : (0 : Int) ≤ (q : Int) := by omega
              have hqi : (q : Int) < (L.length : Int) := by omega
              clear hx hcx hq
              go_wp2_with fail
              have hx := hxr
              refine wp_region_free (fun j => j != 18) (fun w' => w'.cell? ⟨w.heap.size, 0, none⟩ = some (.slice ap P.length cp) ∧ w'.cell? ⟨w.heap.size, 1, none⟩ = some (.slice (some b) L.length cl) ∧ w'.cell? ⟨w2.heap.size, 1, none⟩ = some (.slice ao k cc) ∧ w'.cell? (b.add q) = some (.int .u64 x)) (by kernel_rfl) ⟨c0, c1, d1, hx⟩ (fun hHeld => ?_)
              refine wpAnyG_take (i := 0) (v := ?_) rfl (by kernel_rfl) (fun _ _ _ h => h) (Or.inl ⟨by rfl, ?_⟩) hHeld ?_
              rotate_left
              · intro w hSw; obtain ⟨c0, c1, d1, hx⟩ := hSw; go_simp; (try (with_reducible rfl))
              simp only [Act.put, List.setIfInBounds_toArray]
              refine wpAnyG_take (i := 1) (v := ?_) rfl (by kernel_rfl) (fun _ _ _ h => h) (Or.inl ⟨by rfl, ?_⟩) hHeld ?_
              rotate_left
              · intro w hSw; obtain ⟨c0, c1, d1, hx⟩ := hSw; go_simp; (try (with_reducible rfl))
              try simp only [Act.put]
              refine wpAnyG_take (i := 2) (v := ?_) rfl (by kernel_rfl) (fun _ _ _ h => h) (Or.inl ⟨by rfl, ?_⟩) hHeld ?_
              rotate_left
              · intro w hSw; obtain ⟨c0, c1, d1, hx⟩ := hSw; go_simp; (try (with_reducible rfl))
              try simp only [Act.put]
              refine wpAnyG_take (i := 3) (v := ?_) rfl (by kernel_rfl) (fun _ _ _ h => h) (Or.inl ⟨by rfl, ?_⟩) hHeld ?_
              rotate_left
              · intro w hSw; obtain ⟨c0, c1, d1, hx⟩ := hSw; go_simp; (try (with_reducible rfl))
              try simp only [Act.put]
              refine wpAnyG_take (i := 4) (v := ?_) rfl (by kernel_rfl) (fun _ _ _ h => h) (Or.inl ⟨by kernel_rfl, ?_⟩) hHeld ?_
              rotate_left
              · intro w hSw; obtain ⟨c0, c1, d1, hx⟩ := hSw; go_simp; (try (with_reducible rfl))
              try simp only [Act.put]
              refine wpAnyG_take (i := 5) (v := ?_) rfl (by kernel_rfl) (fun _ _ _ h => h) (Or.inl ⟨by kernel_rfl, ?_⟩) hHeld ?_
              rotate_left
              · intro w hSw; obtain ⟨c0, c1, d1, hx⟩ := hSw; go_simp; (try (with_reducible rfl))
              try simp only [Act.put]
              refine wpAnyG_take (i := 6) (v := ?_) rfl (by kernel_rfl) (fun _ _ _ h => h) (Or.inl ⟨by kernel_rfl, ?_⟩) hHeld ?_
              rotate_left
              · intro w hSw; obtain ⟨c0, c1, d1, hx⟩ := hSw; go_simp; (try go_bits); (try (with_reducible rfl))
              try simp only [Act.put]
              refine wpAnyG_take (i := 7) (v := ?_) rfl (by kernel_rfl) (fun _ _ _ h => h) (Or.inl ⟨by kernel_rfl, ?_⟩) hHeld ?_
              rotate_left
              · intro w hSw; obtain ⟨c0, c1, d1, hx⟩ := hSw; go_simp; (try go_bits); (try (with_reducible rfl))
              try simp only [Act.put]
              refine wpAnyG_take (i := 8) (v := ?_) rfl (by kernel_rfl) (fun _ _ _ h => h) (Or.inl ⟨by kernel_rfl, ?_⟩) hHeld ?_
              rotate_left
              · intro w hSw; obtain ⟨c0, c1, d1, hx⟩ := hSw; go_simp; (try (with_reducible rfl))
              try simp only [Act.put]
              refine wpAnyG_take (i := 9) (v := ?_) rfl (by kernel_rfl) (fun _ _ _ h => h) (Or.inl ⟨by kernel_rfl, ?_⟩) hHeld ?_
              rotate_left
              · intro w hSw; obtain ⟨c0, c1, d1, hx⟩ := hSw; go_simp; (try (with_reducible rfl))
              try simp only [Act.put]
              refine wpAnyG_take (i := 10) (v := ?_) rfl (by kernel_rfl) (fun _ _ _ h => h) (Or.inl ⟨by kernel_rfl, ?_⟩) hHeld ?_
              rotate_left
              · intro w hSw; obtain ⟨c0, c1, d1, hx⟩ := hSw; go_simp; (try (with_reducible rfl))
              try simp only [Act.put]
              refine wpAnyG_take (i := 11) (v := ?_) rfl (by kernel_rfl) (fun _ _ _ h => h) (Or.inl ⟨by kernel_rfl, ?_⟩) hHeld ?_
              rotate_left
              · intro w hSw; obtain ⟨c0, c1, d1, hx⟩ := hSw; go_simp; (try go_bits); (try (with_reducible rfl))
              try simp only [Act.put]
              refine wpAnyG_take (i := 12) (v := ?_) rfl (by kernel_rfl) (fun _ _ _ h => h) (Or.inl ⟨by kernel_rfl, ?_⟩) hHeld ?_
              rotate_left
              · intro w hSw; obtain ⟨c0, c1, d1, hx⟩ := hSw; go_simp; (try go_bits); (try (with_reducible rfl))
              try simp only [Act.put]
              clear hem htm hll0 hLne
              refine wpAnyG_take (i := 13) (v := ?_) rfl (by kernel_rfl) (fun _ _ _ h => h) (Or.inl ⟨by kernel_rfl, ?_⟩) hHeld ?_
              rotate_left
              · intro w hSw; obtain ⟨c0, c1, d1, hx⟩ := hSw; go_simp; (try (with_reducible rfl))
              try simp only [Act.put]
              refine wpAnyG_take (i := 14) (v := ?_) rfl (by kernel_rfl) (fun _ _ _ h => h) (Or.inl ⟨by kernel_rfl, ?_⟩) hHeld ?_
              rotate_left
              · intro w hSw; obtain ⟨c0, c1, d1, hx⟩ := hSw; go_simp; (try (with_reducible rfl))
              try simp only [Act.put]
              refine wpAnyG_ready (rs := [15]) (by kernel_rfl) (by simp) ?_
              refine AllReadyG.cons rfl (fun K hK => ?_) AllReadyG.nil
              rw [if_pos (by kernel_rfl)]
              have hhn : k ≤ 20000 := by omega
              have hhr := ownsRow_drew hrow.out
              have hle : W1.heap.size ≤ wr.drew.heap.size := hleR
              have hh2 := append_one25 (w := wr.drew) (xs := (turned L r).take k) x hhr hle hhn
              obtain ⟨v', W', hh3⟩ := hh2
              have hrun := hh3.1
              have hrow' := hh3.2.1
              have hgr := hh3.2.2
              clear hh3 hhn hle hhr
              have hrun : (Builtin.append_ #[22, 22] 22 #[Value.slice ao k cc, .slice (some ⟨wr.heap.size, 0, none⟩) 1 1]).run Try.prog ((wr.alloc (.cells #[.int .u64 x] 25)).drew) = .ok v' W' := hrun
              have hal : Chg (fun b => (Value.slice ao k cc : Value).ownBlock = some b) wr.drew ((wr.alloc (.cells #[.int .u64 x] 25)).drew) := (Chg.refl _ _).alloc _
              have hcW' : Chg (fun b => (Value.slice ao k cc : Value).ownBlock = some b) wr.drew W' := ((Chg.refl _ _).alloc _).grown hgr (fun k e _ => e)
              have hH1 := hSx.out _ ((Chg.refl _ _).drew.trans1 hal)
              have hH2 := hSx.out W' ((Chg.refl _ _).drew.trans1 hcW')
              have Hrun := Lib.hid hrun
              have HrowN := Lib.hid hrow'
              have HcW' := Lib.hid ((Chg.refl _ _).drew.trans1 hcW')
              have hsh := ownsRow_shape hrow'
              obtain ⟨ao', hsh⟩ := hsh
              obtain ⟨cc', hsh⟩ := hsh
              subst hsh
              clear hrun hrow' hcW' hgr hal
              go_simp
              refine hK.out _ _ (fun _ => hH1) ?_
              clear hK K
              try simp only [Act.put]
              refine wpAnyG_ready (rs := [16]) (by kernel_rfl) (by simp) ?_
              refine AllReadyG.cons rfl (fun K hK => ?_) AllReadyG.nil
              rw [if_pos (by kernel_rfl)]
              refine wp_append_known (.tmp 67) (.tmp 81) 22 22 rfl _ _ rfl rfl _ _ Hrun.out ?_
              refine hK.out _ _ (fun _ => hH2) ?_
              clear hK K
              try simp only [Act.put]
              refine wpAnyG_take (i := 17) (v := ?_) rfl (by kernel_rfl) (fun _ _ _ h => h) (Or.inl ⟨by kernel_rfl, ?_⟩) hH2 ?_
              rotate_left
              · intro w hSw; obtain ⟨c0, c1, d1, hx⟩ := hSw; go_simp; (try (with_reducible rfl))
              try simp only [Act.put]
              refine wpAnyG_ready (rs := [18]) (by kernel_rfl) (by simp) ?_
              refine AllReadyG.cons rfl (fun K hK => ?_) AllReadyG.nil
              rw [if_pos (by kernel_rfl)]
              have hbD' := HcW'.out.at hbD.out (fun e => (hvb.out _ e).2 rfl)
              have hct := cell_two hbD'
              have d0 := hct.1
              have d1 := hct.2.1
              have f0 := hct.2.2.1
              have f1 := hct.2.2.2
              clear hct
              have hset : Chg (At1 (w2.heap.size)) W' (W'.setCell ⟨w2.heap.size, 1, none⟩ (.slice ao' (k + 1) cc')) := (Chg.refl (At1 (w2.heap.size)) _).setCell (p := ⟨w2.heap.size, 1, none⟩) (fun _ => rfl) _
              have HbDN := Lib.hid (block_two_set1 (u := .slice ao' (k + 1) cc') hbD')
              have HrowF := Lib.hid (ownsRow_chg HrowN.out hset (fun k hk e => (ownsRow_ne_type HrowN.out hbD' (by decide) k hk).2 e))
              have HcN : Hid (Chg (At1 (w2.heap.size)) W1 (W'.setCell ⟨w2.heap.size, 1, none⟩ (.slice ao' (k + 1) cc'))) := (show Chg (At1 (w2.heap.size)) W1 _ from ((hcr).trans (S := At1 (w2.heap.size)) HcW'.out (fun i hi e => absurd (hvb.out _ e).1 (by omega))).trans1 hset)
              clear hset hbD'
              go_simp
              refine hK.out _ _ (fun h => absurd h (by decide)) ?_
              clear hK K d0 d1 f0 f1
              try simp only [Act.put]
              refine wpAnyG_done (by kernel_rfl) ?_ _
              go_simp
              go_wp2_with fail
              go_roundw
              case rel => exact ⟨k + 1, by go_num, by omega, _, HbDN.out, (by rw [hnx.out]; exact HrowF.out), HcN.out⟩
              case measure => simp [intOf]; omega
            · obtain rfl : k = L.length := by omega
              obtain ⟨e3, g3, h3, r3, q3⟩ := URow.own (M := P.drop i) HrowP.out (own_len HrowP.out).symm
              obtain ⟨e4, g4, h4, r4, q4⟩ := URow.own (M := turned L r) (by have h := hrow.out; rwa [List.take_of_length_le (by rw [turned_length _ (by omega)]; omega)] at h) (by rw [turned_length _ (by omega)])
              have hk1d : (P.drop i).length = k1 := own_len HrowP.out
              have htl : (turned L r).length = L.length := turned_length _ (by omega)
              rw [hk1d] at h3
              rw [htl] at h4
              cases h3
              cases h4
              have hne3 := fun k hk => (ownsRow_ne_type HrowP.out HbDW.out (by decide) k hk).2
              have hb1 := hcr.at (HcW1.out.at Hb1.out (fun e => by have e : w.heap.size + 1 = w2.heap.size := e; omega)) (fun e => by have e : w.heap.size + 1 = w2.heap.size := e; omega)
              have hF := chg_two' wr (w.heap.size + 1) (.slice aoP k1 ccP) (.slice ao L.length cc)
              have HbF := Lib.hid (block_two_set1 (u := .slice ao L.length cc) (block_two_set0 (u := .slice aoP k1 ccP) hb1))
              have HcF : Hid (Chg Nob w ((wr.setCell ⟨w.heap.size + 1, 0, none⟩ (.slice aoP k1 ccP)).setCell ⟨w.heap.size + 1, 1, none⟩ (.slice ao L.length cc))) := (show Chg Nob w _ from
                (HcwY.out.trans (HcW1.out.trans1 hcr) (fun i hi e => by have e : i = w2.heap.size := e; omega)).trans hF (fun i hi e => by have e : i = w.heap.size + 1 := e; omega))
              have HvF : Hid (LasV ((wr.setCell ⟨w.heap.size + 1, 0, none⟩ (.slice aoP k1 ccP)).setCell ⟨w.heap.size + 1, 1, none⟩ (.slice ao L.length cc)) (sufP P L i) (sufL P L i) (.agg #[.slice aoP k1 ccP, .slice ao L.length cc])) := (show LasV _ _ _ _ by
                rw [Hs.out.1, Hs.out.2, ← Hr.out]
                exact ⟨aoP, ccP, ao, cc, by rw [hk1d, htl], (r3.chg hcr (fun a e h => hne3 a.block (by rw [e]; rfl) h)).chg hF (fun a e h => by have h : a.block = w.heap.size + 1 := h; have := q3 a e; omega), r4.chg hF (fun a e h => by have h : a.block = w.heap.size + 1 := h; have := q4 a e; omega)⟩)
              obtain ⟨d0, d1, _⟩ := cell_two hbD.out
              obtain ⟨p0, p1, f0, f1⟩ := cell_two hb1
              have hki : ¬ (L.length : Int) < (L.length : Int) := by omega
              clear hb1 hF hne3 r3 r4 q3 q4 hk1d htl hbD hrow hvb hcr hlt
              go_wp2
              exact bodyPost_ret (results14 rfl rfl HbF.out) rfl ⟨HcF.out, _, by rw [Hn0.out], HvF.out⟩
        · have hini : ¬ (i : Int) < (P.length : Int) := by omega
          obtain ⟨r, hr⟩ : ∃ r, r = (i - P.length) % L.length := ⟨_, rfl⟩
          have hrl : r < L.length := by rw [hr]; exact Nat.mod_lt _ hl0
          have Hr := Lib.hid hr
          have hem0 : ((i : Int) - (P.length : Int)) % (L.length : Int) = (r : Int) := by
            rw [hr, Int.natCast_emod, Int.ofNat_sub (by omega)]
          have htm0 : ((i : Int) - (P.length : Int)).tmod (L.length : Int) = (r : Int) := by rw [Int.tmod_eq_emod_of_nonneg (by omega), hem0]
          clear hr
          go_wp2_with fail
          rw [← hW1]
          clear hW1 d0 d1 c0 c1 hem0 htm0
          obtain ⟨c0, c1, _⟩ := cell_two (HcW1.out.at Hb0.out (fun e => by have e : w.heap.size = w2.heap.size := e; omega))
          go_loopw [11] (fun kv wr => ∃ k : Nat, kv = .int .i64 (k : Int) ∧ k ≤ L.length ∧ ∃ v, Hid (wr.heap[w2.heap.size]? = some (.cells #[.slice aoP k1 ccP, v] 24 (0, 0))) ∧ Hid (wr.ownsRow W1.heap.size 25 1 v k (uvs ((turned L r).take k))) ∧ Chg (At1 w2.heap.size) W1 wr) (fun kv _ => L.length - (intOf kv).toNat)
          case atStart => exact ⟨0, rfl, Nat.zero_le _, _, HbDW.out, (by rw [List.take_zero]; exact ownsRow_zero _ _ _ _), Chg.refl _ _⟩
          case round =>
            clear hcr hleR hk1 hk2 hlt hkn hk0
            obtain ⟨k, rfl, hkl, v, hbD, hrow, hcr⟩ := hrel
            clear c0 c1
            obtain ⟨ao, cc, rfl⟩ := ownsRow_shape hrow.out
            have hleR := hcr.size
            have hW1s := HcW1.out.size
            have hvb : Hid (∀ b, (Value.slice ao k cc).ownBlock = some b → W1.heap.size ≤ b ∧ b ≠ w2.heap.size) := (show ∀ b, (Value.slice ao k cc).ownBlock = some b → W1.heap.size ≤ b ∧ b ≠ w2.heap.size from ownsRow_ne_type hrow.out hbD.out (by decide))
            obtain ⟨c0, c1, _⟩ := cell_two (hcr.at (HcW1.out.at Hb0.out (fun e => by have e : w.heap.size = w2.heap.size := e; omega)) (fun e => by have e : w.heap.size = w2.heap.size := e; omega))
            obtain ⟨_, d1, _⟩ := cell_two hbD.out
            by_cases hlt : k < L.length
            · obtain ⟨q, hq⟩ : ∃ q, q = (r + k) % L.length := ⟨_, rfl⟩
              have hql : q < L.length := by rw [hq]; exact Nat.mod_lt _ hl0
              obtain ⟨x, hx⟩ : ∃ x, L[q]? = some x := ⟨_, List.getElem?_eq_getElem hql⟩
              obtain ⟨_, e, hcx⟩ := HL.out q x hx
              cases e
              have habl : (b.add q).block < w2.heap.size := by rw [addr_block]; exact HLb.out q x b hx rfl
              have hxr := hcr.cell' (HcW1.out.cell' hcx (fun e => by have e : (b.add q).block = w2.heap.size := e; omega)) (fun e => by have e : (b.add q).block = w2.heap.size := e; omega)
              have hki : (k : Int) < (L.length : Int) := by omega
              have hk0 : (0 : Int) ≤ (k : Int) := by omega
              have hnx : Hid ((turned L r).take (k + 1) = (turned L r).take k ++ [x]) := (show (turned L r).take (k + 1) = (turned L r).take k ++ [x] from take_get (by rw [turned_at L hrl hlt, ← hq, hx]))
              have hSx : Hid (∀ w', Chg (fun b => (Value.slice ao k cc).ownBlock = some b) wr w' → w'.cell? ⟨w.heap.size, 0, none⟩ = some (.slice ap P.length cp) ∧ w'.cell? ⟨w.heap.size, 1, none⟩ = some (.slice (some b) L.length cl) ∧ w'.cell? ⟨w2.heap.size, 1, none⟩ = some (.slice ao k cc) ∧ w'.cell? (b.add q) = some (.int .u64 x)) := fun w' h => by
                refine ⟨h.cell' c0 (fun e => by have := (hvb.out _ e).1; simp only at this; omega), h.cell' c1 (fun e => by have := (hvb.out _ e).1; simp only at this; omega), h.cell' d1 (fun e => (hvb.out _ e).2 rfl), h.cell' hxr (fun e => by have := (hvb.out _ e).1; omega)⟩
              have hem : ((r : Int) + (k : Int)) % (L.length : Int) = (q : Int) := by rw [hq]; rfl
              have htm : ((r : Int) + (k : Int)).tmod (L.length : Int) = (q : Int) := by rw [Int.tmod_eq_emod_of_nonneg (by omega), hem]
              have hr00 : (0 : Int) ≤ (r : Int) := by omega
              have hrk : (r : Int) + (k : Int) ≤ 20000 := by omega
              have hq0 : (0 : Int) ≤ (q : Int) := by omega
              have hqi : (q : Int) < (L.length : Int) := by omega
              clear hx hcx hq
              go_wp2_with fail
              have hx := hxr
              refine wp_region_free (fun j => j != 18) (fun w' => w'.cell? ⟨w.heap.size, 0, none⟩ = some (.slice ap P.length cp) ∧ w'.cell? ⟨w.heap.size, 1, none⟩ = some (.slice (some b) L.length cl) ∧ w'.cell? ⟨w2.heap.size, 1, none⟩ = some (.slice ao k cc) ∧ w'.cell? (b.add q) = some (.int .u64 x)) (by kernel_rfl) ⟨c0, c1, d1, hx⟩ (fun hHeld => ?_)
              refine wpAnyG_take (i := 0) (v := ?_) rfl (by kernel_rfl) (fun _ _ _ h => h) (Or.inl ⟨by rfl, ?_⟩) hHeld ?_
              rotate_left
              · intro w hSw; obtain ⟨c0, c1, d1, hx⟩ := hSw; go_simp; (try (with_reducible rfl))
              simp only [Act.put, List.setIfInBounds_toArray]
              refine wpAnyG_take (i := 1) (v := ?_) rfl (by kernel_rfl) (fun _ _ _ h => h) (Or.inl ⟨by rfl, ?_⟩) hHeld ?_
              rotate_left
              · intro w hSw; obtain ⟨c0, c1, d1, hx⟩ := hSw; go_simp; (try (with_reducible rfl))
              try simp only [Act.put]
              refine wpAnyG_take (i := 2) (v := ?_) rfl (by kernel_rfl) (fun _ _ _ h => h) (Or.inl ⟨by rfl, ?_⟩) hHeld ?_
              rotate_left
              · intro w hSw; obtain ⟨c0, c1, d1, hx⟩ := hSw; go_simp; (try (with_reducible rfl))
              try simp only [Act.put]
              refine wpAnyG_take (i := 3) (v := ?_) rfl (by kernel_rfl) (fun _ _ _ h => h) (Or.inl ⟨by rfl, ?_⟩) hHeld ?_
              rotate_left
              · intro w hSw; obtain ⟨c0, c1, d1, hx⟩ := hSw; go_simp; (try (with_reducible rfl))
              try simp only [Act.put]
              refine wpAnyG_take (i := 4) (v := ?_) rfl (by kernel_rfl) (fun _ _ _ h => h) (Or.inl ⟨by kernel_rfl, ?_⟩) hHeld ?_
              rotate_left
              · intro w hSw; obtain ⟨c0, c1, d1, hx⟩ := hSw; go_simp; (try (with_reducible rfl))
              try simp only [Act.put]
              refine wpAnyG_take (i := 5) (v := ?_) rfl (by kernel_rfl) (fun _ _ _ h => h) (Or.inl ⟨by kernel_rfl, ?_⟩) hHeld ?_
              rotate_left
              · intro w hSw; obtain ⟨c0, c1, d1, hx⟩ := hSw; go_simp; (try (with_reducible rfl))
              try simp only [Act.put]
              refine wpAnyG_take (i := 6) (v := ?_) rfl (by kernel_rfl) (fun _ _ _ h => h) (Or.inl ⟨by kernel_rfl, ?_⟩) hHeld ?_
              rotate_left
              · intro w hSw; obtain ⟨c0, c1, d1, hx⟩ := hSw; go_simp; (try go_bits); (try (with_reducible rfl))
              try simp only [Act.put]
              refine wpAnyG_take (i := 7) (v := ?_) rfl (by kernel_rfl) (fun _ _ _ h => h) (Or.inl ⟨by kernel_rfl, ?_⟩) hHeld ?_
              rotate_left
              · intro w hSw; obtain ⟨c0, c1, d1, hx⟩ := hSw; go_simp; (try go_bits); (try (with_reducible rfl))
              try simp only [Act.put]
              refine wpAnyG_take (i := 8) (v := ?_) rfl (by kernel_rfl) (fun _ _ _ h => h) (Or.inl ⟨by kernel_rfl, ?_⟩) hHeld ?_
              rotate_left
              · intro w hSw; obtain ⟨c0, c1, d1, hx⟩ := hSw; go_simp; (try (with_reducible rfl))
              try simp only [Act.put]
              refine wpAnyG_take (i := 9) (v := ?_) rfl (by kernel_rfl) (fun _ _ _ h => h) (Or.inl ⟨by kernel_rfl, ?_⟩) hHeld ?_
              rotate_left
              · intro w hSw; obtain ⟨c0, c1, d1, hx⟩ := hSw; go_simp; (try (with_reducible rfl))
              try simp only [Act.put]
              refine wpAnyG_take (i := 10) (v := ?_) rfl (by kernel_rfl) (fun _ _ _ h => h) (Or.inl ⟨by kernel_rfl, ?_⟩) hHeld ?_
              rotate_left
              · intro w hSw; obtain ⟨c0, c1, d1, hx⟩ := hSw; go_simp; (try (with_reducible rfl))
              try simp only [Act.put]
              refine wpAnyG_take (i := 11) (v := ?_) rfl (by kernel_rfl) (fun _ _ _ h => h) (Or.inl ⟨by kernel_rfl, ?_⟩) hHeld ?_
              rotate_left
              · intro w hSw; obtain ⟨c0, c1, d1, hx⟩ := hSw; go_simp; (try go_bits); (try (with_reducible rfl))
              try simp only [Act.put]
              refine wpAnyG_take (i := 12) (v := ?_) rfl (by kernel_rfl) (fun _ _ _ h => h) (Or.inl ⟨by kernel_rfl, ?_⟩) hHeld ?_
              rotate_left
              · intro w hSw; obtain ⟨c0, c1, d1, hx⟩ := hSw; go_simp; (try go_bits); (try (with_reducible rfl))
              try simp only [Act.put]
              clear hem htm hll0 hLne
              refine wpAnyG_take (i := 13) (v := ?_) rfl (by kernel_rfl) (fun _ _ _ h => h) (Or.inl ⟨by kernel_rfl, ?_⟩) hHeld ?_
              rotate_left
              · intro w hSw; obtain ⟨c0, c1, d1, hx⟩ := hSw; go_simp; (try (with_reducible rfl))
              try simp only [Act.put]
              refine wpAnyG_take (i := 14) (v := ?_) rfl (by kernel_rfl) (fun _ _ _ h => h) (Or.inl ⟨by kernel_rfl, ?_⟩) hHeld ?_
              rotate_left
              · intro w hSw; obtain ⟨c0, c1, d1, hx⟩ := hSw; go_simp; (try (with_reducible rfl))
              try simp only [Act.put]
              refine wpAnyG_ready (rs := [15]) (by kernel_rfl) (by simp) ?_
              refine AllReadyG.cons rfl (fun K hK => ?_) AllReadyG.nil
              rw [if_pos (by kernel_rfl)]
              have hhn : k ≤ 20000 := by omega
              have hhr := ownsRow_drew hrow.out
              have hle : W1.heap.size ≤ wr.drew.heap.size := hleR
              have hh2 := append_one25 (w := wr.drew) (xs := (turned L r).take k) x hhr hle hhn
              obtain ⟨v', W', hh3⟩ := hh2
              have hrun := hh3.1
              have hrow' := hh3.2.1
              have hgr := hh3.2.2
              clear hh3 hhn hle hhr
              have hrun : (Builtin.append_ #[22, 22] 22 #[Value.slice ao k cc, .slice (some ⟨wr.heap.size, 0, none⟩) 1 1]).run Try.prog ((wr.alloc (.cells #[.int .u64 x] 25)).drew) = .ok v' W' := hrun
              have hal : Chg (fun b => (Value.slice ao k cc : Value).ownBlock = some b) wr.drew ((wr.alloc (.cells #[.int .u64 x] 25)).drew) := (Chg.refl _ _).alloc _
              have hcW' : Chg (fun b => (Value.slice ao k cc : Value).ownBlock = some b) wr.drew W' := ((Chg.refl _ _).alloc _).grown hgr (fun k e _ => e)
              have hH1 := hSx.out _ ((Chg.refl _ _).drew.trans1 hal)
              have hH2 := hSx.out W' ((Chg.refl _ _).drew.trans1 hcW')
              have Hrun := Lib.hid hrun
              have HrowN := Lib.hid hrow'
              have HcW' := Lib.hid ((Chg.refl _ _).drew.trans1 hcW')
              have hsh := ownsRow_shape hrow'
              obtain ⟨ao', hsh⟩ := hsh
              obtain ⟨cc', hsh⟩ := hsh
              subst hsh
              clear hrun hrow' hcW' hgr hal
              go_simp
              refine hK.out _ _ (fun _ => hH1) ?_
              clear hK K
              try simp only [Act.put]
              refine wpAnyG_ready (rs := [16]) (by kernel_rfl) (by simp) ?_
              refine AllReadyG.cons rfl (fun K hK => ?_) AllReadyG.nil
              rw [if_pos (by kernel_rfl)]
              refine wp_append_known (.tmp 67) (.tmp 81) 22 22 rfl _ _ rfl rfl _ _ Hrun.out ?_
              refine hK.out _ _ (fun _ => hH2) ?_
              clear hK K
              try simp only [Act.put]
              refine wpAnyG_take (i := 17) (v := ?_) rfl (by kernel_rfl) (fun _ _ _ h => h) (Or.inl ⟨by kernel_rfl, ?_⟩) hH2 ?_
              rotate_left
              · intro w hSw; obtain ⟨c0, c1, d1, hx⟩ := hSw; go_simp; (try (with_reducible rfl))
              try simp only [Act.put]
              refine wpAnyG_ready (rs := [18]) (by kernel_rfl) (by simp) ?_
              refine AllReadyG.cons rfl (fun K hK => ?_) AllReadyG.nil
              rw [if_pos (by kernel_rfl)]
              have hbD' := HcW'.out.at hbD.out (fun e => (hvb.out _ e).2 rfl)
              have hct := cell_two hbD'
              have d0 := hct.1
              have d1 := hct.2.1
              have f0 := hct.2.2.1
              have f1 := hct.2.2.2
              clear hct
              have hset : Chg (At1 (w2.heap.size)) W' (W'.setCell ⟨w2.heap.size, 1, none⟩ (.slice ao' (k + 1) cc')) := (Chg.refl (At1 (w2.heap.size)) _).setCell (p := ⟨w2.heap.size, 1, none⟩) (fun _ => rfl) _
              have HbDN := Lib.hid (block_two_set1 (u := .slice ao' (k + 1) cc') hbD')
              have HrowF := Lib.hid (ownsRow_chg HrowN.out hset (fun k hk e => (ownsRow_ne_type HrowN.out hbD' (by decide) k hk).2 e))
              have HcN : Hid (Chg (At1 (w2.heap.size)) W1 (W'.setCell ⟨w2.heap.size, 1, none⟩ (.slice ao' (k + 1) cc'))) := (show Chg (At1 (w2.heap.size)) W1 _ from ((hcr).trans (S := At1 (w2.heap.size)) HcW'.out (fun i hi e => absurd (hvb.out _ e).1 (by omega))).trans1 hset)
              clear hset hbD'
              go_simp
              refine hK.out _ _ (fun h => absurd h (by decide)) ?_
              clear hK K d0 d1 f0 f1
              try simp only [Act.put]
              refine wpAnyG_done (by kernel_rfl) ?_ _
              go_simp
              go_wp2_with fail
              go_roundw
              case rel => exact ⟨k + 1, by go_num, by omega, _, HbDN.out, (by rw [hnx.out]; exact HrowF.out), HcN.out⟩
              case measure => simp [intOf]; omega
            · obtain rfl : k = L.length := by omega
              obtain ⟨e3, g3, h3, r3, q3⟩ := URow.own (M := P.drop i) HrowP.out (own_len HrowP.out).symm
              obtain ⟨e4, g4, h4, r4, q4⟩ := URow.own (M := turned L r) (by have h := hrow.out; rwa [List.take_of_length_le (by rw [turned_length _ (by omega)]; omega)] at h) (by rw [turned_length _ (by omega)])
              have hk1d : (P.drop i).length = k1 := own_len HrowP.out
              have htl : (turned L r).length = L.length := turned_length _ (by omega)
              rw [hk1d] at h3
              rw [htl] at h4
              cases h3
              cases h4
              have hne3 := fun k hk => (ownsRow_ne_type HrowP.out HbDW.out (by decide) k hk).2
              have hb1 := hcr.at (HcW1.out.at Hb1.out (fun e => by have e : w.heap.size + 1 = w2.heap.size := e; omega)) (fun e => by have e : w.heap.size + 1 = w2.heap.size := e; omega)
              have hF := chg_two' wr (w.heap.size + 1) (.slice aoP k1 ccP) (.slice ao L.length cc)
              have HbF := Lib.hid (block_two_set1 (u := .slice ao L.length cc) (block_two_set0 (u := .slice aoP k1 ccP) hb1))
              have HcF : Hid (Chg Nob w ((wr.setCell ⟨w.heap.size + 1, 0, none⟩ (.slice aoP k1 ccP)).setCell ⟨w.heap.size + 1, 1, none⟩ (.slice ao L.length cc))) := (show Chg Nob w _ from
                (HcwY.out.trans (HcW1.out.trans1 hcr) (fun i hi e => by have e : i = w2.heap.size := e; omega)).trans hF (fun i hi e => by have e : i = w.heap.size + 1 := e; omega))
              have HvF : Hid (LasV ((wr.setCell ⟨w.heap.size + 1, 0, none⟩ (.slice aoP k1 ccP)).setCell ⟨w.heap.size + 1, 1, none⟩ (.slice ao L.length cc)) (sufP P L i) (sufL P L i) (.agg #[.slice aoP k1 ccP, .slice ao L.length cc])) := (show LasV _ _ _ _ by
                rw [Hs.out.1, Hs.out.2, ← Hr.out]
                exact ⟨aoP, ccP, ao, cc, by rw [hk1d, htl], (r3.chg hcr (fun a e h => hne3 a.block (by rw [e]; rfl) h)).chg hF (fun a e h => by have h : a.block = w.heap.size + 1 := h; have := q3 a e; omega), r4.chg hF (fun a e h => by have h : a.block = w.heap.size + 1 := h; have := q4 a e; omega)⟩)
              obtain ⟨d0, d1, _⟩ := cell_two hbD.out
              obtain ⟨p0, p1, f0, f1⟩ := cell_two hb1
              have hki : ¬ (L.length : Int) < (L.length : Int) := by omega
              clear hb1 hF hne3 r3 r4 q3 q4 hk1d htl hbD hrow hvb hcr hlt
              go_wp2
              exact bodyPost_ret (results14 rfl rfl HbF.out) rfl ⟨HcF.out, _, by rw [Hn0.out], HvF.out⟩
end
end Go.Proofs.Ytkgfdgfhpdhhaaa
