/- The shortest telling of a lasso's word. Conditions: the rows lie in the world, they are short. -/
import Derived.Test.YtkgfdgfhpdhhaaaLsuf
namespace Go.Proofs.Ytkgfdgfhpdhhaaa
open Go.ChangeShapes Go.WideShapes Go.RowKit

def CanPost (P L : List Int) (code : Int) (w : World) (e : Ending) (w' : World) : Prop := Chg Nob w w' ∧ ∃ P' L' v, e = .returned (.tuple #[v, .int .i64 code]) ∧ LasV w' P' L' v ∧ (lcheckN P.length L.length = 0 → IsCanon P L P' L') ∧ (lcheckN P.length L.length ≠ 0 → P' = [] ∧ L' = [])
theorem box_zero (w : World) : ∃ X, X = w.alloc (.cells #[.slice none 0 0, .slice none 0 0] 24) ∧ Chg Nob w X ∧ X.heap.size = w.heap.size + 1 ∧ X.heap[w.heap.size]? = some (.cells #[.slice none 0 0, .slice none 0 0] 24 (0, 0)) := ⟨_, rfl, (Chg.refl _ _).alloc _, World.size_alloc _ _, heap_alloc_new _ _⟩
theorem results15 {rb : Nat} {c : Int} {tm : Array Value} {w : World} {x y : Value} (h2 : tm[2]? = some (.pointer (some ⟨rb, 0, none⟩))) (h3 : tm[3]? = some (.int .i64 c)) (hb : w.heap[rb]? = some (.cells #[x, y] 24 (0, 0))) :
    (results Try.f15 tm).run Try.prog w = .ok (.tuple #[.agg #[x, y], .int .i64 c]) w := by
  have c0 := (cell_two hb).1
  have c1 := (cell_two hb).2.1
  simp [results, Try.results15, go_sem, h2, h3, c0, c1]
/-- Two cells of a block of their own are written. -/
theorem chg_two (w : World) (b : Nat) (u0 u1 : Value) : Chg (At1 b) w ((w.setCell ⟨b, 0, none⟩ u0).setCell ⟨b, 1, none⟩ u1) :=
  ((Chg.refl (At1 b) w).setCell (p := ⟨b, 0, none⟩) (fun _ => rfl) _).setCell (p := ⟨b, 1, none⟩) (fun _ => rfl) _
section
variable {ap al : Option Addr} {cp cl : Nat} {P L : List Int} {w : World}
set_option maxRecDepth 100000 in
set_option maxHeartbeats 8000000 in
theorem lcanon_any (hl : P.length + L.length ≤ 10000) (hcp : P.length ≤ cp) (hcl : L.length ≤ cl) (hP : URow w ap P) (hL : URow w al L) :
    Calls Try.prog 15 #[.agg #[.slice ap P.length cp, .slice al L.length cl]] w (CanPost P L (lcheckN P.length L.length) w) := by
  obtain ⟨X, hX, hcX, hb0, hb1⟩ : ∃ X, X = (w.alloc (.cells #[.slice ap P.length cp, .slice al L.length cl] 24)).alloc (.cells #[.slice none 0 0, .slice none 0 0] 24) ∧ Chg Nob w X ∧ X.heap[w.heap.size]? = some (.cells #[.slice ap P.length cp, .slice al L.length cl] 24 (0, 0)) ∧ X.heap[w.heap.size + 1]? = some (.cells #[.slice none 0 0, .slice none 0 0] 24 (0, 0)) := by
    have h1 := heap_alloc_new (w.alloc (.cells #[.slice ap P.length cp, .slice al L.length cl] 24)) (.cells #[.slice none 0 0, .slice none 0 0] 24)
    rw [World.size_alloc] at h1
    exact ⟨_, rfl, ((Chg.refl _ _).alloc _).alloc _, ((Chg.refl Nob _).alloc _).at (heap_alloc_new w _) (fun e => e), h1⟩
  have hck := lcheck_any (cp := cp) (cl := cl) (ap := ap) (al := al) (w := X) P.length L.length hl
  have HPX := Lib.hid (hP.nob hcX)
  have HLX := Lib.hid (hL.nob hcX)
  have HcX := Lib.hid hcX
  have Hb0 := Lib.hid hb0
  have Hb1 := Lib.hid hb1
  obtain ⟨c0, c1, _⟩ := cell_two hb0
  rw [hX] at c0 c1
  obtain ⟨n, hn⟩ : ∃ n, n = lcheckN P.length L.length := ⟨_, rfl⟩
  rw [← hn] at hck ⊢
  have Hn := Lib.hid hn
  clear hP hL hcX hb0 hb1 hn
  go_enter Try.func15, Try.ntmps15
  go_wp2_with fail
  rw [← hX]
  clear hX c0 c1
  (with_reducible refine hck.mono ?_)
  clear hck
  rintro e w2 ⟨rfl, hc2⟩
  cases h0 : (n == 0) with
  | false =>
    have hne : (n != 0) = true := by rw [bne, h0]; rfl
    have Hs : Hid (lcheckN P.length L.length ≠ 0) := (show _ ≠ _ from fun e => beq_eq_false_iff_ne.1 h0 (by rw [Hn.out, e]))
    obtain ⟨d0, d1, f0, f1⟩ := cell_two (hc2.at Hb1.out (fun e => e))
    have hb := hc2.at Hb1.out (fun e => e)
    have Hb := Lib.hid (block_two_set1 (u := .slice none 0 0) (block_two_set0 (u := .slice none 0 0) hb))
    have Hc : Hid (Chg Nob w ((w2.setCell ⟨w.heap.size + 1, 0, none⟩ (.slice none 0 0)).setCell ⟨w.heap.size + 1, 1, none⟩ (.slice none 0 0))) :=
      (HcX.out.trans1 hc2).trans (chg_two _ _ _ _) (fun i hi e => by have e : i = w.heap.size + 1 := e; omega)
    clear hb hc2
    go_wp2
    exact bodyPost_ret (results15 rfl rfl Hb.out) rfl ⟨Hc.out, [], [], _, rfl, .nil _, fun h => absurd h Hs.out, fun _ => ⟨rfl, rfl⟩⟩
  | true =>
    have hne : (n != 0) = false := by rw [bne, h0]; rfl
    have hck0 : lcheckN P.length L.length = 0 := by rw [← Hn.out]; exact beq_iff_eq.1 h0
    obtain ⟨hl0, hl1⟩ := lcheck_ok (np := P.length) (nl := L.length) (by rw [← Hn.out]; exact h0)
    have Hck := Lib.hid hck0
    have Hn0 : Hid (n = 0) := beq_iff_eq.1 h0
    have hcw2 := HcX.out.trans1 hc2
    have hb0 := hc2.at Hb0.out (fun e => e)
    have hb1 := hc2.at Hb1.out (fun e => e)
    have HP2 := Lib.hid (HPX.out.nob hc2)
    have HL2 := Lib.hid (HLX.out.nob hc2)
    have hsz : w.heap.size + 2 ≤ w2.heap.size := by
      have h := World.block_lt_of_cell? w2 ⟨w.heap.size + 1, 0, none⟩ (cell_two hb1).1
      have h : w.heap.size + 1 < w2.heap.size := h
      omega
    obtain ⟨c0, c1, _⟩ := cell_two hb0
    have hpl : (P.length : Int) ≤ 10000 := by omega
    have hll : (L.length : Int) ≤ 10000 := by omega
    obtain ⟨y, hy⟩ : ∃ y, L[0]? = some y := ⟨_, List.getElem?_eq_getElem hl0⟩
    obtain ⟨b, rfl, _⟩ := HL2.out 0 y hy
    have hper := lperiod_any (w := w2) cl (by omega) hl0 HL2.out
    have Hb0' := Lib.hid hb0
    have Hb1' := Lib.hid hb1
    have Hcw2 := Lib.hid hcw2
    clear hck0 hb0 hb1 hcw2 hc2 HPX HLX HcX Hb0 Hb1 h0 Hn hl1 hy
    go_wp2_with fail
    (with_reducible refine hper.mono ?_)
    clear hper
    rintro e w3 ⟨hc3, m, rfl, hm1, hm2, hok, hno⟩
    have HP3 := Lib.hid (HP2.out.nob hc3)
    have HL3 := Lib.hid (HL2.out.nob hc3)
    have Hb0 := Lib.hid (hc3.at Hb0'.out (fun e => e))
    have Hb1 := Lib.hid (hc3.at Hb1'.out (fun e => e))
    have Hcw3 := Lib.hid (Hcw2.out.trans1 hc3)
    have hsz3 : w.heap.size + 2 ≤ w3.heap.size := by have := hc3.size; omega
    have Hok := Lib.hid hok
    have Hno := Lib.hid hno
    have hLne : L ≠ [] := List.length_pos_iff.1 hl0
    have HLne := Lib.hid hLne
    have Hst : Hid (GoBack P L m P.length 0) := (show GoBack P L m P.length 0 from .start hok hm1 hLne)
    have hmi : (m : Int) ≤ 10000 := by omega
    have hm0 : ¬ (m : Int) = 0 := by omega
    clear hc3 hok hno hLne c0 c1 Hb0' Hb1' Hcw2 HP2 HL2
    obtain ⟨c0, c1, _⟩ := cell_two Hb0.out
    go_wp2_with fail
    go_loopw [6, 7] (fun fv kv wr => ∃ f k : Nat, fv = .int .i64 (f : Int) ∧ kv = .int .i64 (k : Int) ∧ f ≤ P.length ∧ k < m ∧ Hid (GoBack P L m f k) ∧ Chg Nob w3 wr) (fun fv _ _ => (intOf fv).toNat)
    case atStart => exact ⟨P.length, 0, rfl, rfl, Nat.le_refl _, hm1, Hst, Chg.refl _ _⟩
    case round =>
      obtain ⟨f, k, rfl, rfl, hf, hk, hgo, hcr⟩ := hrel
      clear c0 c1
      obtain ⟨c0, c1, _⟩ := cell_two (hcr.at Hb0.out (fun e => e))
      have hDone : Hid ((f = 0 ∨ P[f - 1]? ≠ L[(k + m - 1) % m]?) → IsCanon P L (P.take f) ((L.drop k).take (m - k) ++ L.take k)) := fun hs => hgo.out.canon HLne.out hm1 hm2 Hno.out hs
      obtain ⟨q, hq⟩ : ∃ q, q = k + m - 1 := ⟨_, rfl⟩
      obtain ⟨r, hr⟩ : ∃ r, r = q % m := ⟨_, rfl⟩
      have hrm : r < m := by rw [hr]; exact Nat.mod_lt _ hm1
      have hqi : (k : Int) + (m : Int) - 1 = (q : Int) := by omega
      have hqi0 : (0 : Int) ≤ (q : Int) := by omega
      have hql : (q : Int) ≤ 20000 := by omega
      have hem : (q : Int) % (m : Int) = (r : Int) := by rw [hr]; rfl
      have htm : (q : Int).tmod (m : Int) = (r : Int) := by rw [Int.tmod_eq_emod_of_nonneg (by omega), hem]
      have hr0 : (0 : Int) ≤ (r : Int) := by omega
      have hrl : (r : Int) < (L.length : Int) := by omega
      have Hr : Hid ((k + m - 1) % m = r) := (show (k + m - 1) % m = r by rw [hr, hq])
      clear hr hq
      by_cases hf0 : 0 < f
      · have hx := List.getElem?_eq_getElem (show f - 1 < P.length by omega)
        have hy := List.getElem?_eq_getElem (show r < L.length by omega)
        obtain ⟨x, hxe⟩ : ∃ x, x = P[f - 1]'(by omega) := ⟨_, rfl⟩
        obtain ⟨y, hye⟩ : ∃ y, y = L[r]'(by omega) := ⟨_, rfl⟩
        rw [← hxe] at hx
        rw [← hye] at hy
        obtain ⟨a, rfl, hca⟩ := HP3.out _ x hx
        obtain ⟨_, e, hcb⟩ := HL3.out _ y hy
        cases e
        have habl : a.block < w3.heap.size := by have h := World.block_lt_of_cell? w3 _ hca; rwa [addr_block] at h
        have hca := hcr.cell' hca (fun e => e)
        have hcb := hcr.cell' hcb (fun e => e)
        obtain ⟨g, hg⟩ : ∃ g, g = f - 1 := ⟨_, rfl⟩
        rw [← hg] at hca hx
        have hgi : (f : Int) - 1 = (g : Int) := by omega
        have hg0 : (0 : Int) ≤ (g : Int) := by omega
        have hgl : (g : Int) < (P.length : Int) := by omega
        have hfd : decide ((0 : Int) < (f : Int)) = true := by simpa using hf0
        have hfi : (0 : Int) < (f : Int) := by omega
        have Hx := Lib.hid hx
        have Hy := Lib.hid hy
        have Hg : Hid (f = g + 1) := (show f = g + 1 by omega)
        clear hx hy hxe hye hg
        cases hq : (x == y) with
        | true =>
          have Hnext : Hid (GoBack P L m g r) := (show GoBack P L m g r by
            have h := hgo.out
            rw [Hg.out] at h
            have h2 := h.next (by rw [Hr.out, Hx.out, Hy.out, beq_iff_eq.1 hq])
            rwa [Hr.out] at h2)
          go_wp2_with fail
          go_quiet (fail)
          go_wp2_with fail
          go_roundw
          case rel => exact ⟨g, r, rfl, rfl, by omega, hrm, Hnext, hcr.drewN _⟩
          case measure => simp [intOf]; omega
        | false =>
          have hcan : IsCanon P L (P.take f) ((L.drop k).take (m - k) ++ L.take k) := hDone.out (.inr (by
            have : f - 1 = g := by have := Hg.out; omega
            rw [this, Hr.out, Hx.out, Hy.out]
            intro e
            cases e
            simp at hq))
          have Hcan := Lib.hid hcan
          have hfz : (f == 0) = false := by simp; omega
          clear hcan hDone hgo Hr Hx Hy Hst Hok Hno Hg
          go_wp2_with fail
          go_quiet (fail)
          clear hca hcb hgi hg0 hgl hfz
          have hcW : Chg Nob w3 (wr.drewN nq) := hcr.drewN nq
          generalize wr.drewN nq = W at hcW ⊢
          clear hcr hqi hqi0 hql hem htm hr0 hrl hrm c0 c1
          have hS : ∀ w', Chg Nob w3 w' → w'.cell? ⟨w.heap.size, 0, none⟩ = some (.slice (some a) P.length cp) ∧ w'.cell? ⟨w.heap.size, 1, none⟩ = some (.slice (some b) L.length cl) := fun w' h => by
            obtain ⟨c0, c1, _⟩ := cell_two (h.at Hb0.out (fun e => e))
            exact ⟨c0, c1⟩
          have hSx := Lib.hid hS
          obtain ⟨c0, c1⟩ := hS _ hcW
          have HcW := Lib.hid hcW
          have hkle : k ≤ m := by omega
          have hkl : k ≤ L.length := by omega
          have hmlc : m ≤ cl := by omega
          have hmkc : k ≤ cl := by omega
          have hcnk : ¬ cl = k := by omega
          have hki : (k : Int) ≤ (m : Int) := by omega
          have hki0 : (0 : Int) ≤ (k : Int) := by omega
          have hzW := hcW.size
          clear hS hcW
          go_wp2_with fail
          refine wp_region_free (fun _ => true) (fun w' => w'.cell? ⟨w.heap.size, 0, none⟩ = some (.slice (some a) P.length cp) ∧ w'.cell? ⟨w.heap.size, 1, none⟩ = some (.slice (some b) L.length cl)) (by kernel_rfl) ⟨c0, c1⟩ (fun hHeld => ?_)
          refine wpAnyG_take (i := 0) (v := ?_) rfl (by kernel_rfl) (fun _ _ _ h => h) (Or.inl ⟨by rfl, ?_⟩) hHeld ?_
          rotate_left
          · intro w hSw; obtain ⟨c0, c1⟩ := hSw; go_simp; try (with_reducible rfl)
          simp only [Act.put, List.setIfInBounds_toArray]
          refine wpAnyG_take (i := 1) (v := ?_) rfl (by kernel_rfl) (fun _ _ _ h => h) (Or.inl ⟨by rfl, ?_⟩) hHeld ?_
          rotate_left
          · intro w hSw; obtain ⟨c0, c1⟩ := hSw; go_simp; try (with_reducible rfl)
          try simp only [Act.put]
          refine wpAnyG_take (i := 2) (v := ?_) rfl (by kernel_rfl) (fun _ _ _ h => h) (Or.inl ⟨by rfl, ?_⟩) hHeld ?_
          rotate_left
          · intro w hSw; obtain ⟨c0, c1⟩ := hSw; go_simp; try (with_reducible rfl)
          try simp only [Act.put]
          refine wpAnyG_take (i := 3) (v := ?_) rfl (by kernel_rfl) (fun _ _ _ h => h) (Or.inl ⟨by rfl, ?_⟩) hHeld ?_
          rotate_left
          · intro w hSw; obtain ⟨c0, c1⟩ := hSw; go_simp; try (with_reducible rfl)
          try simp only [Act.put]
          refine wpAnyG_take (i := 4) (v := ?_) rfl (by kernel_rfl) (fun _ _ _ h => h) (Or.inl ⟨by kernel_rfl, ?_⟩) hHeld ?_
          rotate_left
          · intro w hSw; obtain ⟨c0, c1⟩ := hSw; go_simp; try (with_reducible rfl)
          try simp only [Act.put]
          refine wpAnyG_take (i := 6) (v := ?_) rfl (by kernel_rfl) (fun _ _ _ h => h) (Or.inl ⟨by kernel_rfl, ?_⟩) hHeld ?_
          rotate_left
          · intro w hSw; obtain ⟨c0, c1⟩ := hSw; go_simp; try (with_reducible rfl)
          try simp only [Act.put]
          refine wpAnyG_take (i := 7) (v := ?_) rfl (by kernel_rfl) (fun _ _ _ h => h) (Or.inl ⟨by kernel_rfl, ?_⟩) hHeld ?_
          rotate_left
          · intro w hSw; obtain ⟨c0, c1⟩ := hSw; go_simp; try (with_reducible rfl)
          try simp only [Act.put]
          refine wpAnyG_take (i := 8) (v := ?_) rfl (by kernel_rfl) (fun _ _ _ h => h) (Or.inl ⟨by kernel_rfl, ?_⟩) hHeld ?_
          rotate_left
          · intro w hSw; obtain ⟨c0, c1⟩ := hSw; go_simp; try (with_reducible rfl)
          try simp only [Act.put]
          refine wpAnyG_take (i := 9) (v := ?_) rfl (by kernel_rfl) (fun _ _ _ h => h) (Or.inl ⟨by kernel_rfl, ?_⟩) hHeld ?_
          rotate_left
          · intro w hSw; obtain ⟨c0, c1⟩ := hSw; go_simp; try (with_reducible rfl)
          try simp only [Act.put]
          refine wpAnyG_ready (rs := [5, 12]) (by kernel_rfl) (by simp) ?_
          refine AllReadyG.cons rfl (fun K hK => ?_) (AllReadyG.cons rfl (fun K hK => ?_) AllReadyG.nil)
          · rw [if_pos (by kernel_rfl)]
            go_simp
            have hp := clone_row (w := W.drew) (a := b.add k) (M := (L.drop k).take (m - k)) (n := m - k) (c := cl - k) (by rw [List.length_take, List.length_drop]; omega) (by omega) (fun j x hj => row_drop (HL3.out.nob HcW.out.drew) k j x (by have hj2 := (List.getElem?_eq_some_iff.1 hj).1; rw [List.length_take] at hj2; rwa [List.getElem?_take_of_lt (by omega)] at hj))
            have Hp := Lib.hid hp
            clear hp
            (with_reducible refine Hp.out.mono ?_)
            clear Hp
            rintro e V3 ⟨hc3, v3, rfl, hrow3⟩
            have hcV3 : Chg Nob W.drew V3 := hc3
            have hc3 : Chg Nob w3 V3 := (HcW.out.drew).trans1 hc3
            have hsz3 := hcV3.size
            have HcV3 := Lib.hid hcV3
            have Hrow3 := Lib.hid (ownsRow_mono hrow3 (hzW))
            have Hc3 := Lib.hid hc3
            have hH3 := hSx.out V3 hc3
            clear hrow3 hc3 hcV3
            refine hK.out _ _ (fun _ => hSx.out _ Hc3.out) ?_
            clear hK K
            try simp only [Act.put]
            refine wpAnyG_ready (rs := [10, 12]) (by kernel_rfl) (by simp) ?_
            refine AllReadyG.cons rfl (fun K hK => ?_) (AllReadyG.cons rfl (fun K hK => ?_) AllReadyG.nil)
            · rw [if_pos (by kernel_rfl)]
              obtain ⟨v4, V4, hrun, hrow4, hgr, _⟩ := append25 (a := b) (M := L.take k) cl (Hrow3.out) (Hc3.out.size) (by rw [List.length_take]; omega) (row_take (HL3.out.nob Hc3.out) k)
              have hlt4 : (L.take k).length = k := by rw [List.length_take]; omega
              have hln4 : m - k + (L.take k).length = m := by rw [hlt4]; omega
              rw [hlt4] at hrun
              rw [hln4] at hrow4
              have hc4 : Chg Nob w3 V4 := (Hc3.out).trans (S' := fun b => v3.ownBlock = some b) ((Chg.refl _ _).grown hgr (fun k e _ => e)) (fun i hi e => by have := ((Hrow3.out).lt i e).1; omega)
              obtain ⟨a4, c4, rfl⟩ := ownsRow_shape hrow4
              have Hrow4 := Lib.hid hrow4
              have Hc4 := Lib.hid hc4
              have hH4 := hSx.out V4 hc4
              refine wp_append_known (.tmp 55) (.tmp 59) 22 22 rfl _ _ rfl rfl _ _ hrun ?_
              clear hrow4 hc4 hrun hlt4 hln4 hgr
              refine hK.out _ _ (fun _ => hH4) ?_
              clear hK K
              try simp only [Act.put]
              refine wpAnyG_take (i := 11) (v := ?_) rfl (by kernel_rfl) (fun _ _ _ h => h) (Or.inl ⟨by kernel_rfl, ?_⟩) hH4 ?_
              rotate_left
              · intro w hSw; obtain ⟨c0, c1⟩ := hSw; go_simp; try (with_reducible rfl)
              try simp only [Act.put]
              refine wpAnyG_ready (rs := [12]) (by kernel_rfl) (by simp) ?_
              refine AllReadyG.cons rfl (fun K hK => ?_) AllReadyG.nil
              rw [if_pos (by kernel_rfl)]
              obtain ⟨VA, hVA, hcA, hsA, hbA⟩ := box_zero V4
              have hcA3 : Chg Nob w3 VA := (Hc4.out).trans1 hcA
              have hleA : w3.heap.size ≤ V4.heap.size := Hc4.out.size
              have HbA := Lib.hid hbA
              have HcA := Lib.hid hcA
              have HcA3 := Lib.hid (hcA3)
              have hHA := hSx.out _ HcA3.out
              go_simp
              rw [← hVA]
              clear hVA hbA hcA hcA3
              refine hK.out _ _ (fun _ => hSx.out _ HcA3.out) ?_
              clear hK K
              have HrowA := Lib.hid (ownsRow_chg (Hrow4.out) HcA.out (fun _ _ e => e))
              try simp only [Act.put]
              refine wpAnyG_ready (rs := [13]) (by kernel_rfl) (by simp) ?_
              refine AllReadyG.cons rfl (fun K hK => ?_) AllReadyG.nil
              rw [if_pos (by kernel_rfl)]
              have hbD := HbA.out
              have hDne : V4.heap.size ≠ w.heap.size := by omega
              obtain ⟨d0, d1, f0, f1⟩ := cell_two hbD
              have hcs := chg_two VA (V4.heap.size) (.slice none 0 0) (.slice a4 m c4)
              have Hcs := Lib.hid hcs
              have Hb5 := Lib.hid (block_two_set1 (u := .slice a4 m c4) (block_two_set0 (u := .slice none 0 0) hbD))
              have hH5 : ((VA.setCell ⟨V4.heap.size, 0, none⟩ (.slice none 0 0)).setCell ⟨V4.heap.size, 1, none⟩ (.slice a4 m c4)).cell? ⟨w.heap.size, 0, none⟩ = some (.slice (some a) P.length cp) ∧ ((VA.setCell ⟨V4.heap.size, 0, none⟩ (.slice none 0 0)).setCell ⟨V4.heap.size, 1, none⟩ (.slice a4 m c4)).cell? ⟨w.heap.size, 1, none⟩ = some (.slice (some b) L.length cl) := by
                obtain ⟨c0, c1, _⟩ := cell_two (hcs.at ((HcA3.out).at Hb0.out (fun e => e)) (fun e => by have e : w.heap.size = V4.heap.size := e; omega))
                exact ⟨c0, c1⟩
              clear hcs hbD
              go_simp
              refine hK.out _ _ (fun _ => hH5) ?_
              clear hK K d0 d1 f0 f1
              try simp only [Act.put]
              refine wpAnyG_done (by kernel_rfl) ?_ _
              go_simp
              clear hHeld hH3 hHA hH4
              obtain ⟨c0, c1⟩ := hH5
              have Hrow6 := Lib.hid (ownsRow_chg (HrowA.out) Hcs.out (fun k hk e => (ownsRow_ne_type (HrowA.out) (HbA.out) (by decide) k hk).2 e))
              have HcV := Lib.hid (HcA3.out)
              obtain ⟨Y, hY⟩ : ∃ Y, Y = (VA.setCell ⟨V4.heap.size, 0, none⟩ (Value.slice none 0 0)).setCell ⟨V4.heap.size, 1, none⟩ (.slice a4 m c4) := ⟨_, rfl⟩
              rw [← hY] at Hcs Hb5 Hrow6 c0 c1 ⊢
              obtain ⟨D, hD⟩ : ∃ D, D = V4.heap.size := ⟨_, rfl⟩
              rw [← hD] at Hcs Hb5 hDne hleA ⊢
              have hb1Y := Hcs.out.at (HcV.out.at Hb1.out (fun e => e)) (fun e => by have e : w.heap.size + 1 = D := e; omega)
              have HcwY : Hid (Chg Nob w Y) := (show Chg Nob w Y from (Hcw3.out.trans1 HcV.out).trans Hcs.out (fun i hi e => by have e : i = D := e; omega))
              have hszY := Hcs.out.size
              have hszV := HcV.out.size
              have HrowY := Lib.hid Hrow6.out
              clear hY hD Hrow3 Hrow4 Hrow6 HbA HcA HcV3 hSx Hc4 Hc3 HcA3 HcW hsA HrowA
              obtain ⟨e4, g4, h4, r4, q4⟩ := URow.own (M := (L.drop k).take (m - k) ++ L.take k) (by have := HrowY.out; rwa [show uvs ((L.drop k).take (m - k)) ++ uvs (L.take k) = uvs ((L.drop k).take (m - k) ++ L.take k) by unfold uvs; rw [List.map_append]] at this) (by rw [List.length_append, List.length_take, List.length_take, List.length_drop]; omega)
              have hl4 : ((L.drop k).take (m - k) ++ L.take k).length = m := by rw [List.length_append, List.length_take, List.length_take, List.length_drop]; omega
              rw [hl4] at h4
              cases h4
              have hne4 : ∀ a, a4 = some a → a.block ≠ D := fun a e => (ownsRow_ne_type HrowY.out Hb5.out (by decide) a.block (by rw [e]; rfl)).2
              have Hl4 := Lib.hid hl4
              have Hr4 := Lib.hid r4
              have Hq4 := Lib.hid q4
              have Hne4 := Lib.hid hne4
              clear hl4 r4 q4 hne4 HrowY
              obtain ⟨e0, e1, g0, g1⟩ := cell_two Hb5.out
              obtain ⟨p0, p1, s0, s1⟩ := cell_two hb1Y
              have hfle : f ≤ cp := by omega
              have hfpi : (f : Int) ≤ (P.length : Int) := by omega
              have hflp : f ≤ P.length := hf
              have hp := clone_row (w := Y) (a := a) (M := P.take f) (n := f) (c := cp) (by rw [List.length_take]; omega) (by omega) (row_take ((HP3.out.nob HcV.out).chg Hcs.out (fun a' e h => by cases e; have h : a.block = D := h; have := habl; omega)) f)
              have Hp := Lib.hid hp
              have Hb1Y := Lib.hid hb1Y
              clear hp hb1Y
              go_wp2_with fail
              (with_reducible refine Hp.out.mono ?_)
              clear Hp p0 p1 s0 s1 e0 e1 g0 g1
              rintro e Z ⟨hcZ, vz, rfl, hrowz⟩
              obtain ⟨a5, c5, rfl⟩ := ownsRow_shape hrowz
              obtain ⟨e5, g5, h5, r5, q5⟩ := URow.own (M := P.take f) hrowz (by rw [List.length_take]; omega)
              rw [List.length_take, Nat.min_eq_left hf] at h5
              cases h5
              have hb5Z := hcZ.at Hb5.out (fun e => e)
              have hb1Z := hcZ.at Hb1Y.out (fun e => e)
              have hszZ := hcZ.size
              have hDY : D < Y.heap.size := World.block_lt_of_cell? Y ⟨D, 0, none⟩ (cell_two Hb5.out).1
              have hb5F := block_two_set0 (u := .slice a5 f c5) hb5Z
              have h0F : Chg (At1 D) Z (Z.setCell ⟨D, 0, none⟩ (.slice a5 f c5)) := (Chg.refl (At1 D) _).setCell (p := ⟨D, 0, none⟩) (fun _ => rfl) _
              have hb1F := h0F.at hb1Z (fun e => by have e : w.heap.size + 1 = D := e; omega)
              have h1F := chg_two (Z.setCell ⟨D, 0, none⟩ (.slice a5 f c5)) (w.heap.size + 1) (.slice a5 f c5) (.slice a4 m c4)
              have hbF := block_two_set1 (u := .slice a4 m c4) (block_two_set0 (u := .slice a5 f c5) hb1F)
              have hFF : Chg (fun b => b = D ∨ b = w.heap.size + 1) Z (((Z.setCell ⟨D, 0, none⟩ (.slice a5 f c5)).setCell ⟨w.heap.size + 1, 0, none⟩ (.slice a5 f c5)).setCell ⟨w.heap.size + 1, 1, none⟩ (.slice a4 m c4)) := (h0F.mono (fun _ _ e => .inl e)).trans h1F (fun _ _ e => .inr e)
              have HbF := Lib.hid hbF
              have HcF : Hid (Chg Nob w (((Z.setCell ⟨D, 0, none⟩ (.slice a5 f c5)).setCell ⟨w.heap.size + 1, 0, none⟩ (.slice a5 f c5)).setCell ⟨w.heap.size + 1, 1, none⟩ (.slice a4 m c4))) := (show Chg Nob w _ from (HcwY.out.trans1 hcZ).trans hFF (fun i hi e => by rcases e with e | e <;> omega))
              have HvF : Hid (LasV (((Z.setCell ⟨D, 0, none⟩ (.slice a5 f c5)).setCell ⟨w.heap.size + 1, 0, none⟩ (.slice a5 f c5)).setCell ⟨w.heap.size + 1, 1, none⟩ (.slice a4 m c4)) (P.take f) ((L.drop k).take (m - k) ++ L.take k) (.agg #[.slice a5 f c5, .slice a4 m c4])) := (show LasV _ _ _ _ from ⟨a5, c5, a4, c4, by rw [Hl4.out, List.length_take, Nat.min_eq_left hf], r5.chg hFF (fun a e h => by have := q5 a e; have h : a.block = D ∨ a.block = w.heap.size + 1 := h; rcases h with h | h <;> omega), (Hr4.out.nob hcZ).chg hFF (fun a e h => by have := Hq4.out a e; have := Hne4.out a e; have h : a.block = D ∨ a.block = w.heap.size + 1 := h; rcases h with h | h <;> omega)⟩)
              obtain ⟨e0, e1, g0, g1⟩ := cell_two hb5Z
              obtain ⟨p0, p1, _⟩ := cell_two hb5F
              obtain ⟨t0, t1, t2, t3⟩ := cell_two hb1F
              clear hb5Z hb1Z hb5F h0F hb1F h1F hbF hFF r5 q5 hrowz hcZ
              go_wp2
              exact bodyPost_ret (results15 rfl rfl HbF.out) rfl ⟨HcF.out, _, _, _, by rw [Hn0.out], HvF.out, fun _ => Hcan.out, fun h => absurd Hck.out h⟩
            · rw [if_pos (by kernel_rfl)]
              obtain ⟨VA, hVA, hcA, hsA, hbA⟩ := box_zero V3
              have hcA3 : Chg Nob w3 VA := (Hc3.out).trans1 hcA
              have hleA : w3.heap.size ≤ V3.heap.size := Hc3.out.size
              have HbA := Lib.hid hbA
              have HcA := Lib.hid hcA
              have HcA3 := Lib.hid (hcA3)
              have hHA := hSx.out _ HcA3.out
              go_simp
              rw [← hVA]
              clear hVA hbA hcA hcA3
              refine hK.out _ _ (fun _ => hSx.out _ HcA3.out) ?_
              clear hK K
              have HrowA := Lib.hid (ownsRow_chg (Hrow3.out) HcA.out (fun _ _ e => e))
              try simp only [Act.put]
              refine wpAnyG_ready (rs := [10]) (by kernel_rfl) (by simp) ?_
              refine AllReadyG.cons rfl (fun K hK => ?_) AllReadyG.nil
              rw [if_pos (by kernel_rfl)]
              obtain ⟨v4, V4, hrun, hrow4, hgr, _⟩ := append25 (a := b) (M := L.take k) cl (HrowA.out) (HcA3.out.size) (by rw [List.length_take]; omega) (row_take (HL3.out.nob HcA3.out) k)
              have hlt4 : (L.take k).length = k := by rw [List.length_take]; omega
              have hln4 : m - k + (L.take k).length = m := by rw [hlt4]; omega
              rw [hlt4] at hrun
              rw [hln4] at hrow4
              have hc4 : Chg Nob w3 V4 := (HcA3.out).trans (S' := fun b => v3.ownBlock = some b) ((Chg.refl _ _).grown hgr (fun k e _ => e)) (fun i hi e => by have := ((HrowA.out).lt i e).1; omega)
              obtain ⟨a4, c4, rfl⟩ := ownsRow_shape hrow4
              have Hrow4 := Lib.hid hrow4
              have Hc4 := Lib.hid hc4
              have hH4 := hSx.out V4 hc4
              have HbA4 := Lib.hid (((Chg.refl (fun b => v3.ownBlock = some b) _).grown hgr (fun k e _ => e)).at HbA.out (fun e => (ownsRow_ne_type (HrowA.out) HbA.out (by decide) _ e).2 rfl))
              refine wp_append_known (.tmp 55) (.tmp 59) 22 22 rfl _ _ rfl rfl _ _ hrun ?_
              clear hrow4 hc4 hrun hlt4 hln4 hgr
              refine hK.out _ _ (fun _ => hH4) ?_
              clear hK K
              try simp only [Act.put]
              refine wpAnyG_take (i := 11) (v := ?_) rfl (by kernel_rfl) (fun _ _ _ h => h) (Or.inl ⟨by kernel_rfl, ?_⟩) hH4 ?_
              rotate_left
              · intro w hSw; obtain ⟨c0, c1⟩ := hSw; go_simp; try (with_reducible rfl)
              try simp only [Act.put]
              refine wpAnyG_ready (rs := [13]) (by kernel_rfl) (by simp) ?_
              refine AllReadyG.cons rfl (fun K hK => ?_) AllReadyG.nil
              rw [if_pos (by kernel_rfl)]
              have hbD := HbA4.out
              have hDne : V3.heap.size ≠ w.heap.size := by omega
              obtain ⟨d0, d1, f0, f1⟩ := cell_two hbD
              have hcs := chg_two V4 (V3.heap.size) (.slice none 0 0) (.slice a4 m c4)
              have Hcs := Lib.hid hcs
              have Hb5 := Lib.hid (block_two_set1 (u := .slice a4 m c4) (block_two_set0 (u := .slice none 0 0) hbD))
              have hH5 : ((V4.setCell ⟨V3.heap.size, 0, none⟩ (.slice none 0 0)).setCell ⟨V3.heap.size, 1, none⟩ (.slice a4 m c4)).cell? ⟨w.heap.size, 0, none⟩ = some (.slice (some a) P.length cp) ∧ ((V4.setCell ⟨V3.heap.size, 0, none⟩ (.slice none 0 0)).setCell ⟨V3.heap.size, 1, none⟩ (.slice a4 m c4)).cell? ⟨w.heap.size, 1, none⟩ = some (.slice (some b) L.length cl) := by
                obtain ⟨c0, c1, _⟩ := cell_two (hcs.at ((Hc4.out).at Hb0.out (fun e => e)) (fun e => by have e : w.heap.size = V3.heap.size := e; omega))
                exact ⟨c0, c1⟩
              clear hcs hbD
              go_simp
              refine hK.out _ _ (fun _ => hH5) ?_
              clear hK K d0 d1 f0 f1
              try simp only [Act.put]
              refine wpAnyG_done (by kernel_rfl) ?_ _
              go_simp
              clear hHeld hH3 hHA hH4
              obtain ⟨c0, c1⟩ := hH5
              have Hrow6 := Lib.hid (ownsRow_chg (Hrow4.out) Hcs.out (fun k hk e => (ownsRow_ne_type (Hrow4.out) (HbA4.out) (by decide) k hk).2 e))
              have HcV := Lib.hid (Hc4.out)
              obtain ⟨Y, hY⟩ : ∃ Y, Y = (V4.setCell ⟨V3.heap.size, 0, none⟩ (Value.slice none 0 0)).setCell ⟨V3.heap.size, 1, none⟩ (.slice a4 m c4) := ⟨_, rfl⟩
              rw [← hY] at Hcs Hb5 Hrow6 c0 c1 ⊢
              obtain ⟨D, hD⟩ : ∃ D, D = V3.heap.size := ⟨_, rfl⟩
              rw [← hD] at Hcs Hb5 hDne hleA ⊢
              have hb1Y := Hcs.out.at (HcV.out.at Hb1.out (fun e => e)) (fun e => by have e : w.heap.size + 1 = D := e; omega)
              have HcwY : Hid (Chg Nob w Y) := (show Chg Nob w Y from (Hcw3.out.trans1 HcV.out).trans Hcs.out (fun i hi e => by have e : i = D := e; omega))
              have hszY := Hcs.out.size
              have hszV := HcV.out.size
              have HrowY := Lib.hid Hrow6.out
              clear hY hD Hrow3 Hrow4 Hrow6 HbA HcA HcV3 hSx Hc4 Hc3 HbA4 HcA3 HcW hsA HrowA
              obtain ⟨e4, g4, h4, r4, q4⟩ := URow.own (M := (L.drop k).take (m - k) ++ L.take k) (by have := HrowY.out; rwa [show uvs ((L.drop k).take (m - k)) ++ uvs (L.take k) = uvs ((L.drop k).take (m - k) ++ L.take k) by unfold uvs; rw [List.map_append]] at this) (by rw [List.length_append, List.length_take, List.length_take, List.length_drop]; omega)
              have hl4 : ((L.drop k).take (m - k) ++ L.take k).length = m := by rw [List.length_append, List.length_take, List.length_take, List.length_drop]; omega
              rw [hl4] at h4
              cases h4
              have hne4 : ∀ a, a4 = some a → a.block ≠ D := fun a e => (ownsRow_ne_type HrowY.out Hb5.out (by decide) a.block (by rw [e]; rfl)).2
              have Hl4 := Lib.hid hl4
              have Hr4 := Lib.hid r4
              have Hq4 := Lib.hid q4
              have Hne4 := Lib.hid hne4
              clear hl4 r4 q4 hne4 HrowY
              obtain ⟨e0, e1, g0, g1⟩ := cell_two Hb5.out
              obtain ⟨p0, p1, s0, s1⟩ := cell_two hb1Y
              have hfle : f ≤ cp := by omega
              have hfpi : (f : Int) ≤ (P.length : Int) := by omega
              have hflp : f ≤ P.length := hf
              have hp := clone_row (w := Y) (a := a) (M := P.take f) (n := f) (c := cp) (by rw [List.length_take]; omega) (by omega) (row_take ((HP3.out.nob HcV.out).chg Hcs.out (fun a' e h => by cases e; have h : a.block = D := h; have := habl; omega)) f)
              have Hp := Lib.hid hp
              have Hb1Y := Lib.hid hb1Y
              clear hp hb1Y
              go_wp2_with fail
              (with_reducible refine Hp.out.mono ?_)
              clear Hp p0 p1 s0 s1 e0 e1 g0 g1
              rintro e Z ⟨hcZ, vz, rfl, hrowz⟩
              obtain ⟨a5, c5, rfl⟩ := ownsRow_shape hrowz
              obtain ⟨e5, g5, h5, r5, q5⟩ := URow.own (M := P.take f) hrowz (by rw [List.length_take]; omega)
              rw [List.length_take, Nat.min_eq_left hf] at h5
              cases h5
              have hb5Z := hcZ.at Hb5.out (fun e => e)
              have hb1Z := hcZ.at Hb1Y.out (fun e => e)
              have hszZ := hcZ.size
              have hDY : D < Y.heap.size := World.block_lt_of_cell? Y ⟨D, 0, none⟩ (cell_two Hb5.out).1
              have hb5F := block_two_set0 (u := .slice a5 f c5) hb5Z
              have h0F : Chg (At1 D) Z (Z.setCell ⟨D, 0, none⟩ (.slice a5 f c5)) := (Chg.refl (At1 D) _).setCell (p := ⟨D, 0, none⟩) (fun _ => rfl) _
              have hb1F := h0F.at hb1Z (fun e => by have e : w.heap.size + 1 = D := e; omega)
              have h1F := chg_two (Z.setCell ⟨D, 0, none⟩ (.slice a5 f c5)) (w.heap.size + 1) (.slice a5 f c5) (.slice a4 m c4)
              have hbF := block_two_set1 (u := .slice a4 m c4) (block_two_set0 (u := .slice a5 f c5) hb1F)
              have hFF : Chg (fun b => b = D ∨ b = w.heap.size + 1) Z (((Z.setCell ⟨D, 0, none⟩ (.slice a5 f c5)).setCell ⟨w.heap.size + 1, 0, none⟩ (.slice a5 f c5)).setCell ⟨w.heap.size + 1, 1, none⟩ (.slice a4 m c4)) := (h0F.mono (fun _ _ e => .inl e)).trans h1F (fun _ _ e => .inr e)
              have HbF := Lib.hid hbF
              have HcF : Hid (Chg Nob w (((Z.setCell ⟨D, 0, none⟩ (.slice a5 f c5)).setCell ⟨w.heap.size + 1, 0, none⟩ (.slice a5 f c5)).setCell ⟨w.heap.size + 1, 1, none⟩ (.slice a4 m c4))) := (show Chg Nob w _ from (HcwY.out.trans1 hcZ).trans hFF (fun i hi e => by rcases e with e | e <;> omega))
              have HvF : Hid (LasV (((Z.setCell ⟨D, 0, none⟩ (.slice a5 f c5)).setCell ⟨w.heap.size + 1, 0, none⟩ (.slice a5 f c5)).setCell ⟨w.heap.size + 1, 1, none⟩ (.slice a4 m c4)) (P.take f) ((L.drop k).take (m - k) ++ L.take k) (.agg #[.slice a5 f c5, .slice a4 m c4])) := (show LasV _ _ _ _ from ⟨a5, c5, a4, c4, by rw [Hl4.out, List.length_take, Nat.min_eq_left hf], r5.chg hFF (fun a e h => by have := q5 a e; have h : a.block = D ∨ a.block = w.heap.size + 1 := h; rcases h with h | h <;> omega), (Hr4.out.nob hcZ).chg hFF (fun a e h => by have := Hq4.out a e; have := Hne4.out a e; have h : a.block = D ∨ a.block = w.heap.size + 1 := h; rcases h with h | h <;> omega)⟩)
              obtain ⟨e0, e1, g0, g1⟩ := cell_two hb5Z
              obtain ⟨p0, p1, _⟩ := cell_two hb5F
              obtain ⟨t0, t1, t2, t3⟩ := cell_two hb1F
              clear hb5Z hb1Z hb5F h0F hb1F h1F hbF hFF r5 q5 hrowz hcZ
              go_wp2
              exact bodyPost_ret (results15 rfl rfl HbF.out) rfl ⟨HcF.out, _, _, _, by rw [Hn0.out], HvF.out, fun _ => Hcan.out, fun h => absurd Hck.out h⟩
          · rw [if_pos (by kernel_rfl)]
            obtain ⟨VA, hVA, hcA, hsA, hbA⟩ := box_zero W
            have hcA3 : Chg Nob w3 VA := (HcW.out).trans1 hcA
            have hleA : w3.heap.size ≤ W.heap.size := hzW
            have HbA := Lib.hid hbA
            have HcA := Lib.hid hcA
            have HcA3 := Lib.hid (hcA3.drew)
            have hHA := hSx.out _ HcA3.out
            go_simp
            rw [← hVA]
            clear hVA hbA hcA hcA3
            refine hK.out _ _ (fun _ => hSx.out _ HcA3.out) ?_
            clear hK K
            try simp only [Act.put]
            refine wpAnyG_ready (rs := [5]) (by kernel_rfl) (by simp) ?_
            refine AllReadyG.cons rfl (fun K hK => ?_) AllReadyG.nil
            rw [if_pos (by kernel_rfl)]
            go_simp
            have hp := clone_row (w := VA.drew) (a := b.add k) (M := (L.drop k).take (m - k)) (n := m - k) (c := cl - k) (by rw [List.length_take, List.length_drop]; omega) (by omega) (fun j x hj => row_drop (HL3.out.nob HcA3.out) k j x (by have hj2 := (List.getElem?_eq_some_iff.1 hj).1; rw [List.length_take] at hj2; rwa [List.getElem?_take_of_lt (by omega)] at hj))
            have Hp := Lib.hid hp
            clear hp
            (with_reducible refine Hp.out.mono ?_)
            clear Hp
            rintro e V3 ⟨hc3, v3, rfl, hrow3⟩
            have hcV3 : Chg Nob VA.drew V3 := hc3
            have hc3 : Chg Nob w3 V3 := (HcA3.out).trans1 hc3
            have hsz3 := hcV3.size
            have HcV3 := Lib.hid hcV3
            have Hrow3 := Lib.hid (ownsRow_mono hrow3 (HcA3.out.size))
            have Hc3 := Lib.hid hc3
            have hH3 := hSx.out V3 hc3
            clear hrow3 hc3 hcV3
            refine hK.out _ _ (fun _ => hSx.out _ Hc3.out) ?_
            clear hK K
            try simp only [Act.put]
            refine wpAnyG_ready (rs := [10]) (by kernel_rfl) (by simp) ?_
            refine AllReadyG.cons rfl (fun K hK => ?_) AllReadyG.nil
            rw [if_pos (by kernel_rfl)]
            obtain ⟨v4, V4, hrun, hrow4, hgr, _⟩ := append25 (a := b) (M := L.take k) cl (Hrow3.out) (Hc3.out.size) (by rw [List.length_take]; omega) (row_take (HL3.out.nob Hc3.out) k)
            have hlt4 : (L.take k).length = k := by rw [List.length_take]; omega
            have hln4 : m - k + (L.take k).length = m := by rw [hlt4]; omega
            rw [hlt4] at hrun
            rw [hln4] at hrow4
            have hc4 : Chg Nob w3 V4 := (Hc3.out).trans (S' := fun b => v3.ownBlock = some b) ((Chg.refl _ _).grown hgr (fun k e _ => e)) (fun i hi e => by have := ((Hrow3.out).lt i e).1; omega)
            obtain ⟨a4, c4, rfl⟩ := ownsRow_shape hrow4
            have Hrow4 := Lib.hid hrow4
            have Hc4 := Lib.hid hc4
            have hH4 := hSx.out V4 hc4
            have HbA4 := Lib.hid (((HcV3.out.any (S := fun b => v3.ownBlock = some b)).trans1 ((Chg.refl _ _).grown hgr (fun k e _ => e))).at HbA.out (fun e => (ownsRow_ne_type (Hrow3.out) (HcV3.out.at HbA.out (fun e => e)) (by decide) _ e).2 rfl))
            refine wp_append_known (.tmp 55) (.tmp 59) 22 22 rfl _ _ rfl rfl _ _ hrun ?_
            clear hrow4 hc4 hrun hlt4 hln4 hgr
            refine hK.out _ _ (fun _ => hH4) ?_
            clear hK K
            try simp only [Act.put]
            refine wpAnyG_take (i := 11) (v := ?_) rfl (by kernel_rfl) (fun _ _ _ h => h) (Or.inl ⟨by kernel_rfl, ?_⟩) hH4 ?_
            rotate_left
            · intro w hSw; obtain ⟨c0, c1⟩ := hSw; go_simp; try (with_reducible rfl)
            try simp only [Act.put]
            refine wpAnyG_ready (rs := [13]) (by kernel_rfl) (by simp) ?_
            refine AllReadyG.cons rfl (fun K hK => ?_) AllReadyG.nil
            rw [if_pos (by kernel_rfl)]
            have hbD := HbA4.out
            have hDne : W.heap.size ≠ w.heap.size := by omega
            obtain ⟨d0, d1, f0, f1⟩ := cell_two hbD
            have hcs := chg_two V4 (W.heap.size) (.slice none 0 0) (.slice a4 m c4)
            have Hcs := Lib.hid hcs
            have Hb5 := Lib.hid (block_two_set1 (u := .slice a4 m c4) (block_two_set0 (u := .slice none 0 0) hbD))
            have hH5 : ((V4.setCell ⟨W.heap.size, 0, none⟩ (.slice none 0 0)).setCell ⟨W.heap.size, 1, none⟩ (.slice a4 m c4)).cell? ⟨w.heap.size, 0, none⟩ = some (.slice (some a) P.length cp) ∧ ((V4.setCell ⟨W.heap.size, 0, none⟩ (.slice none 0 0)).setCell ⟨W.heap.size, 1, none⟩ (.slice a4 m c4)).cell? ⟨w.heap.size, 1, none⟩ = some (.slice (some b) L.length cl) := by
              obtain ⟨c0, c1, _⟩ := cell_two (hcs.at ((Hc4.out).at Hb0.out (fun e => e)) (fun e => by have e : w.heap.size = W.heap.size := e; omega))
              exact ⟨c0, c1⟩
            clear hcs hbD
            go_simp
            refine hK.out _ _ (fun _ => hH5) ?_
            clear hK K d0 d1 f0 f1
            try simp only [Act.put]
            refine wpAnyG_done (by kernel_rfl) ?_ _
            go_simp
            clear hHeld hH3 hHA hH4
            obtain ⟨c0, c1⟩ := hH5
            have Hrow6 := Lib.hid (ownsRow_chg (Hrow4.out) Hcs.out (fun k hk e => (ownsRow_ne_type (Hrow4.out) (HbA4.out) (by decide) k hk).2 e))
            have HcV := Lib.hid (Hc4.out)
            obtain ⟨Y, hY⟩ : ∃ Y, Y = (V4.setCell ⟨W.heap.size, 0, none⟩ (Value.slice none 0 0)).setCell ⟨W.heap.size, 1, none⟩ (.slice a4 m c4) := ⟨_, rfl⟩
            rw [← hY] at Hcs Hb5 Hrow6 c0 c1 ⊢
            obtain ⟨D, hD⟩ : ∃ D, D = W.heap.size := ⟨_, rfl⟩
            rw [← hD] at Hcs Hb5 hDne hleA ⊢
            have hb1Y := Hcs.out.at (HcV.out.at Hb1.out (fun e => e)) (fun e => by have e : w.heap.size + 1 = D := e; omega)
            have HcwY : Hid (Chg Nob w Y) := (show Chg Nob w Y from (Hcw3.out.trans1 HcV.out).trans Hcs.out (fun i hi e => by have e : i = D := e; omega))
            have hszY := Hcs.out.size
            have hszV := HcV.out.size
            have HrowY := Lib.hid Hrow6.out
            clear hY hD Hrow3 Hrow4 Hrow6 HbA HcA HcV3 hSx Hc4 Hc3 HbA4 HcA3 HcW hsA
            obtain ⟨e4, g4, h4, r4, q4⟩ := URow.own (M := (L.drop k).take (m - k) ++ L.take k) (by have := HrowY.out; rwa [show uvs ((L.drop k).take (m - k)) ++ uvs (L.take k) = uvs ((L.drop k).take (m - k) ++ L.take k) by unfold uvs; rw [List.map_append]] at this) (by rw [List.length_append, List.length_take, List.length_take, List.length_drop]; omega)
            have hl4 : ((L.drop k).take (m - k) ++ L.take k).length = m := by rw [List.length_append, List.length_take, List.length_take, List.length_drop]; omega
            rw [hl4] at h4
            cases h4
            have hne4 : ∀ a, a4 = some a → a.block ≠ D := fun a e => (ownsRow_ne_type HrowY.out Hb5.out (by decide) a.block (by rw [e]; rfl)).2
            have Hl4 := Lib.hid hl4
            have Hr4 := Lib.hid r4
            have Hq4 := Lib.hid q4
            have Hne4 := Lib.hid hne4
            clear hl4 r4 q4 hne4 HrowY
            obtain ⟨e0, e1, g0, g1⟩ := cell_two Hb5.out
            obtain ⟨p0, p1, s0, s1⟩ := cell_two hb1Y
            have hfle : f ≤ cp := by omega
            have hfpi : (f : Int) ≤ (P.length : Int) := by omega
            have hflp : f ≤ P.length := hf
            have hp := clone_row (w := Y) (a := a) (M := P.take f) (n := f) (c := cp) (by rw [List.length_take]; omega) (by omega) (row_take ((HP3.out.nob HcV.out).chg Hcs.out (fun a' e h => by cases e; have h : a.block = D := h; have := habl; omega)) f)
            have Hp := Lib.hid hp
            have Hb1Y := Lib.hid hb1Y
            clear hp hb1Y
            go_wp2_with fail
            (with_reducible refine Hp.out.mono ?_)
            clear Hp p0 p1 s0 s1 e0 e1 g0 g1
            rintro e Z ⟨hcZ, vz, rfl, hrowz⟩
            obtain ⟨a5, c5, rfl⟩ := ownsRow_shape hrowz
            obtain ⟨e5, g5, h5, r5, q5⟩ := URow.own (M := P.take f) hrowz (by rw [List.length_take]; omega)
            rw [List.length_take, Nat.min_eq_left hf] at h5
            cases h5
            have hb5Z := hcZ.at Hb5.out (fun e => e)
            have hb1Z := hcZ.at Hb1Y.out (fun e => e)
            have hszZ := hcZ.size
            have hDY : D < Y.heap.size := World.block_lt_of_cell? Y ⟨D, 0, none⟩ (cell_two Hb5.out).1
            have hb5F := block_two_set0 (u := .slice a5 f c5) hb5Z
            have h0F : Chg (At1 D) Z (Z.setCell ⟨D, 0, none⟩ (.slice a5 f c5)) := (Chg.refl (At1 D) _).setCell (p := ⟨D, 0, none⟩) (fun _ => rfl) _
            have hb1F := h0F.at hb1Z (fun e => by have e : w.heap.size + 1 = D := e; omega)
            have h1F := chg_two (Z.setCell ⟨D, 0, none⟩ (.slice a5 f c5)) (w.heap.size + 1) (.slice a5 f c5) (.slice a4 m c4)
            have hbF := block_two_set1 (u := .slice a4 m c4) (block_two_set0 (u := .slice a5 f c5) hb1F)
            have hFF : Chg (fun b => b = D ∨ b = w.heap.size + 1) Z (((Z.setCell ⟨D, 0, none⟩ (.slice a5 f c5)).setCell ⟨w.heap.size + 1, 0, none⟩ (.slice a5 f c5)).setCell ⟨w.heap.size + 1, 1, none⟩ (.slice a4 m c4)) := (h0F.mono (fun _ _ e => .inl e)).trans h1F (fun _ _ e => .inr e)
            have HbF := Lib.hid hbF
            have HcF : Hid (Chg Nob w (((Z.setCell ⟨D, 0, none⟩ (.slice a5 f c5)).setCell ⟨w.heap.size + 1, 0, none⟩ (.slice a5 f c5)).setCell ⟨w.heap.size + 1, 1, none⟩ (.slice a4 m c4))) := (show Chg Nob w _ from (HcwY.out.trans1 hcZ).trans hFF (fun i hi e => by rcases e with e | e <;> omega))
            have HvF : Hid (LasV (((Z.setCell ⟨D, 0, none⟩ (.slice a5 f c5)).setCell ⟨w.heap.size + 1, 0, none⟩ (.slice a5 f c5)).setCell ⟨w.heap.size + 1, 1, none⟩ (.slice a4 m c4)) (P.take f) ((L.drop k).take (m - k) ++ L.take k) (.agg #[.slice a5 f c5, .slice a4 m c4])) := (show LasV _ _ _ _ from ⟨a5, c5, a4, c4, by rw [Hl4.out, List.length_take, Nat.min_eq_left hf], r5.chg hFF (fun a e h => by have := q5 a e; have h : a.block = D ∨ a.block = w.heap.size + 1 := h; rcases h with h | h <;> omega), (Hr4.out.nob hcZ).chg hFF (fun a e h => by have := Hq4.out a e; have := Hne4.out a e; have h : a.block = D ∨ a.block = w.heap.size + 1 := h; rcases h with h | h <;> omega)⟩)
            obtain ⟨e0, e1, g0, g1⟩ := cell_two hb5Z
            obtain ⟨p0, p1, _⟩ := cell_two hb5F
            obtain ⟨t0, t1, t2, t3⟩ := cell_two hb1F
            clear hb5Z hb1Z hb5F h0F hb1F h1F hbF hFF r5 q5 hrowz hcZ
            go_wp2
            exact bodyPost_ret (results15 rfl rfl HbF.out) rfl ⟨HcF.out, _, _, _, by rw [Hn0.out], HvF.out, fun _ => Hcan.out, fun h => absurd Hck.out h⟩
      · obtain rfl : f = 0 := by omega
        have hcan : IsCanon P L (P.take 0) ((L.drop k).take (m - k) ++ L.take k) := hDone.out (.inl rfl)
        have Hcan := Lib.hid hcan
        clear hcan hDone hgo Hr Hst Hok Hno hf0
        go_wp2_with fail
        go_quiet (fail)
        go_wp2_with fail
        have hcW : Chg Nob w3 (wr.drewN nq) := hcr.drewN nq
        generalize wr.drewN nq = W at hcW ⊢
        clear hcr hqi hqi0 hql hem htm hr0 hrl hrm c0 c1
        have hS : ∀ w', Chg Nob w3 w' → w'.cell? ⟨w.heap.size, 0, none⟩ = some (.slice ap P.length cp) ∧ w'.cell? ⟨w.heap.size, 1, none⟩ = some (.slice (some b) L.length cl) := fun w' h => by
          obtain ⟨c0, c1, _⟩ := cell_two (h.at Hb0.out (fun e => e))
          exact ⟨c0, c1⟩
        have hSx := Lib.hid hS
        obtain ⟨c0, c1⟩ := hS _ hcW
        have HcW := Lib.hid hcW
        have hkle : k ≤ m := by omega
        have hkl : k ≤ L.length := by omega
        have hmlc : m ≤ cl := by omega
        have hmkc : k ≤ cl := by omega
        have hcnk : ¬ cl = k := by omega
        have hki : (k : Int) ≤ (m : Int) := by omega
        have hki0 : (0 : Int) ≤ (k : Int) := by omega
        have hzW := hcW.size
        clear hS hcW
        go_wp2_with fail
        refine wp_region_free (fun _ => true) (fun w' => w'.cell? ⟨w.heap.size, 0, none⟩ = some (.slice ap P.length cp) ∧ w'.cell? ⟨w.heap.size, 1, none⟩ = some (.slice (some b) L.length cl)) (by kernel_rfl) ⟨c0, c1⟩ (fun hHeld => ?_)
        refine wpAnyG_take (i := 0) (v := ?_) rfl (by kernel_rfl) (fun _ _ _ h => h) (Or.inl ⟨by rfl, ?_⟩) hHeld ?_
        rotate_left
        · intro w hSw; obtain ⟨c0, c1⟩ := hSw; go_simp; try (with_reducible rfl)
        simp only [Act.put, List.setIfInBounds_toArray]
        refine wpAnyG_take (i := 1) (v := ?_) rfl (by kernel_rfl) (fun _ _ _ h => h) (Or.inl ⟨by rfl, ?_⟩) hHeld ?_
        rotate_left
        · intro w hSw; obtain ⟨c0, c1⟩ := hSw; go_simp; try (with_reducible rfl)
        try simp only [Act.put]
        refine wpAnyG_take (i := 2) (v := ?_) rfl (by kernel_rfl) (fun _ _ _ h => h) (Or.inl ⟨by rfl, ?_⟩) hHeld ?_
        rotate_left
        · intro w hSw; obtain ⟨c0, c1⟩ := hSw; go_simp; try (with_reducible rfl)
        try simp only [Act.put]
        refine wpAnyG_take (i := 3) (v := ?_) rfl (by kernel_rfl) (fun _ _ _ h => h) (Or.inl ⟨by rfl, ?_⟩) hHeld ?_
        rotate_left
        · intro w hSw; obtain ⟨c0, c1⟩ := hSw; go_simp; try (with_reducible rfl)
        try simp only [Act.put]
        refine wpAnyG_take (i := 4) (v := ?_) rfl (by kernel_rfl) (fun _ _ _ h => h) (Or.inl ⟨by kernel_rfl, ?_⟩) hHeld ?_
        rotate_left
        · intro w hSw; obtain ⟨c0, c1⟩ := hSw; go_simp; try (with_reducible rfl)
        try simp only [Act.put]
        refine wpAnyG_take (i := 6) (v := ?_) rfl (by kernel_rfl) (fun _ _ _ h => h) (Or.inl ⟨by kernel_rfl, ?_⟩) hHeld ?_
        rotate_left
        · intro w hSw; obtain ⟨c0, c1⟩ := hSw; go_simp; try (with_reducible rfl)
        try simp only [Act.put]
        refine wpAnyG_take (i := 7) (v := ?_) rfl (by kernel_rfl) (fun _ _ _ h => h) (Or.inl ⟨by kernel_rfl, ?_⟩) hHeld ?_
        rotate_left
        · intro w hSw; obtain ⟨c0, c1⟩ := hSw; go_simp; try (with_reducible rfl)
        try simp only [Act.put]
        refine wpAnyG_take (i := 8) (v := ?_) rfl (by kernel_rfl) (fun _ _ _ h => h) (Or.inl ⟨by kernel_rfl, ?_⟩) hHeld ?_
        rotate_left
        · intro w hSw; obtain ⟨c0, c1⟩ := hSw; go_simp; try (with_reducible rfl)
        try simp only [Act.put]
        refine wpAnyG_take (i := 9) (v := ?_) rfl (by kernel_rfl) (fun _ _ _ h => h) (Or.inl ⟨by kernel_rfl, ?_⟩) hHeld ?_
        rotate_left
        · intro w hSw; obtain ⟨c0, c1⟩ := hSw; go_simp; try (with_reducible rfl)
        try simp only [Act.put]
        refine wpAnyG_ready (rs := [5, 12]) (by kernel_rfl) (by simp) ?_
        refine AllReadyG.cons rfl (fun K hK => ?_) (AllReadyG.cons rfl (fun K hK => ?_) AllReadyG.nil)
        · rw [if_pos (by kernel_rfl)]
          go_simp
          have hp := clone_row (w := W.drew) (a := b.add k) (M := (L.drop k).take (m - k)) (n := m - k) (c := cl - k) (by rw [List.length_take, List.length_drop]; omega) (by omega) (fun j x hj => row_drop (HL3.out.nob HcW.out.drew) k j x (by have hj2 := (List.getElem?_eq_some_iff.1 hj).1; rw [List.length_take] at hj2; rwa [List.getElem?_take_of_lt (by omega)] at hj))
          have Hp := Lib.hid hp
          clear hp
          (with_reducible refine Hp.out.mono ?_)
          clear Hp
          rintro e V3 ⟨hc3, v3, rfl, hrow3⟩
          have hcV3 : Chg Nob W.drew V3 := hc3
          have hc3 : Chg Nob w3 V3 := (HcW.out.drew).trans1 hc3
          have hsz3 := hcV3.size
          have HcV3 := Lib.hid hcV3
          have Hrow3 := Lib.hid (ownsRow_mono hrow3 (hzW))
          have Hc3 := Lib.hid hc3
          have hH3 := hSx.out V3 hc3
          clear hrow3 hc3 hcV3
          refine hK.out _ _ (fun _ => hSx.out _ Hc3.out) ?_
          clear hK K
          try simp only [Act.put]
          refine wpAnyG_ready (rs := [10, 12]) (by kernel_rfl) (by simp) ?_
          refine AllReadyG.cons rfl (fun K hK => ?_) (AllReadyG.cons rfl (fun K hK => ?_) AllReadyG.nil)
          · rw [if_pos (by kernel_rfl)]
            obtain ⟨v4, V4, hrun, hrow4, hgr, _⟩ := append25 (a := b) (M := L.take k) cl (Hrow3.out) (Hc3.out.size) (by rw [List.length_take]; omega) (row_take (HL3.out.nob Hc3.out) k)
            have hlt4 : (L.take k).length = k := by rw [List.length_take]; omega
            have hln4 : m - k + (L.take k).length = m := by rw [hlt4]; omega
            rw [hlt4] at hrun
            rw [hln4] at hrow4
            have hc4 : Chg Nob w3 V4 := (Hc3.out).trans (S' := fun b => v3.ownBlock = some b) ((Chg.refl _ _).grown hgr (fun k e _ => e)) (fun i hi e => by have := ((Hrow3.out).lt i e).1; omega)
            obtain ⟨a4, c4, rfl⟩ := ownsRow_shape hrow4
            have Hrow4 := Lib.hid hrow4
            have Hc4 := Lib.hid hc4
            have hH4 := hSx.out V4 hc4
            refine wp_append_known (.tmp 55) (.tmp 59) 22 22 rfl _ _ rfl rfl _ _ hrun ?_
            clear hrow4 hc4 hrun hlt4 hln4 hgr
            refine hK.out _ _ (fun _ => hH4) ?_
            clear hK K
            try simp only [Act.put]
            refine wpAnyG_take (i := 11) (v := ?_) rfl (by kernel_rfl) (fun _ _ _ h => h) (Or.inl ⟨by kernel_rfl, ?_⟩) hH4 ?_
            rotate_left
            · intro w hSw; obtain ⟨c0, c1⟩ := hSw; go_simp; try (with_reducible rfl)
            try simp only [Act.put]
            refine wpAnyG_ready (rs := [12]) (by kernel_rfl) (by simp) ?_
            refine AllReadyG.cons rfl (fun K hK => ?_) AllReadyG.nil
            rw [if_pos (by kernel_rfl)]
            obtain ⟨VA, hVA, hcA, hsA, hbA⟩ := box_zero V4
            have hcA3 : Chg Nob w3 VA := (Hc4.out).trans1 hcA
            have hleA : w3.heap.size ≤ V4.heap.size := Hc4.out.size
            have HbA := Lib.hid hbA
            have HcA := Lib.hid hcA
            have HcA3 := Lib.hid (hcA3)
            have hHA := hSx.out _ HcA3.out
            go_simp
            rw [← hVA]
            clear hVA hbA hcA hcA3
            refine hK.out _ _ (fun _ => hSx.out _ HcA3.out) ?_
            clear hK K
            have HrowA := Lib.hid (ownsRow_chg (Hrow4.out) HcA.out (fun _ _ e => e))
            try simp only [Act.put]
            refine wpAnyG_ready (rs := [13]) (by kernel_rfl) (by simp) ?_
            refine AllReadyG.cons rfl (fun K hK => ?_) AllReadyG.nil
            rw [if_pos (by kernel_rfl)]
            have hbD := HbA.out
            have hDne : V4.heap.size ≠ w.heap.size := by omega
            obtain ⟨d0, d1, f0, f1⟩ := cell_two hbD
            have hcs := chg_two VA (V4.heap.size) (.slice none 0 0) (.slice a4 m c4)
            have Hcs := Lib.hid hcs
            have Hb5 := Lib.hid (block_two_set1 (u := .slice a4 m c4) (block_two_set0 (u := .slice none 0 0) hbD))
            have hH5 : ((VA.setCell ⟨V4.heap.size, 0, none⟩ (.slice none 0 0)).setCell ⟨V4.heap.size, 1, none⟩ (.slice a4 m c4)).cell? ⟨w.heap.size, 0, none⟩ = some (.slice ap P.length cp) ∧ ((VA.setCell ⟨V4.heap.size, 0, none⟩ (.slice none 0 0)).setCell ⟨V4.heap.size, 1, none⟩ (.slice a4 m c4)).cell? ⟨w.heap.size, 1, none⟩ = some (.slice (some b) L.length cl) := by
              obtain ⟨c0, c1, _⟩ := cell_two (hcs.at ((HcA3.out).at Hb0.out (fun e => e)) (fun e => by have e : w.heap.size = V4.heap.size := e; omega))
              exact ⟨c0, c1⟩
            clear hcs hbD
            go_simp
            refine hK.out _ _ (fun _ => hH5) ?_
            clear hK K d0 d1 f0 f1
            try simp only [Act.put]
            refine wpAnyG_done (by kernel_rfl) ?_ _
            go_simp
            clear hHeld hH3 hHA hH4
            obtain ⟨c0, c1⟩ := hH5
            have Hrow6 := Lib.hid (ownsRow_chg (HrowA.out) Hcs.out (fun k hk e => (ownsRow_ne_type (HrowA.out) (HbA.out) (by decide) k hk).2 e))
            have HcV := Lib.hid (HcA3.out)
            obtain ⟨Y, hY⟩ : ∃ Y, Y = (VA.setCell ⟨V4.heap.size, 0, none⟩ (Value.slice none 0 0)).setCell ⟨V4.heap.size, 1, none⟩ (.slice a4 m c4) := ⟨_, rfl⟩
            rw [← hY] at Hcs Hb5 Hrow6 c0 c1 ⊢
            obtain ⟨D, hD⟩ : ∃ D, D = V4.heap.size := ⟨_, rfl⟩
            rw [← hD] at Hcs Hb5 hDne hleA ⊢
            have hb1Y := Hcs.out.at (HcV.out.at Hb1.out (fun e => e)) (fun e => by have e : w.heap.size + 1 = D := e; omega)
            have HcwY : Hid (Chg Nob w Y) := (show Chg Nob w Y from (Hcw3.out.trans1 HcV.out).trans Hcs.out (fun i hi e => by have e : i = D := e; omega))
            have hszY := Hcs.out.size
            have hszV := HcV.out.size
            have HrowY := Lib.hid Hrow6.out
            clear hY hD Hrow3 Hrow4 Hrow6 HbA HcA HcV3 hSx Hc4 Hc3 HcA3 HcW hsA HrowA
            obtain ⟨e4, g4, h4, r4, q4⟩ := URow.own (M := (L.drop k).take (m - k) ++ L.take k) (by have := HrowY.out; rwa [show uvs ((L.drop k).take (m - k)) ++ uvs (L.take k) = uvs ((L.drop k).take (m - k) ++ L.take k) by unfold uvs; rw [List.map_append]] at this) (by rw [List.length_append, List.length_take, List.length_take, List.length_drop]; omega)
            have hl4 : ((L.drop k).take (m - k) ++ L.take k).length = m := by rw [List.length_append, List.length_take, List.length_take, List.length_drop]; omega
            rw [hl4] at h4
            cases h4
            have hne4 : ∀ a, a4 = some a → a.block ≠ D := fun a e => (ownsRow_ne_type HrowY.out Hb5.out (by decide) a.block (by rw [e]; rfl)).2
            have Hl4 := Lib.hid hl4
            have Hr4 := Lib.hid r4
            have Hq4 := Lib.hid q4
            have Hne4 := Lib.hid hne4
            clear hl4 r4 q4 hne4 HrowY
            obtain ⟨e0, e1, g0, g1⟩ := cell_two Hb5.out
            obtain ⟨p0, p1, s0, s1⟩ := cell_two hb1Y
            have hFF := chg_two Y (w.heap.size + 1) (.slice none 0 0) (.slice a4 m c4)
            have HbF := Lib.hid (block_two_set1 (u := .slice a4 m c4) (block_two_set0 (u := .slice none 0 0) hb1Y))
            have HcF : Hid (Chg Nob w ((Y.setCell ⟨w.heap.size + 1, 0, none⟩ (.slice none 0 0)).setCell ⟨w.heap.size + 1, 1, none⟩ (.slice a4 m c4))) := (show Chg Nob w _ from HcwY.out.trans hFF (fun i hi e => by have e : i = w.heap.size + 1 := e; omega))
            have HvF : Hid (LasV ((Y.setCell ⟨w.heap.size + 1, 0, none⟩ (.slice none 0 0)).setCell ⟨w.heap.size + 1, 1, none⟩ (.slice a4 m c4)) (P.take 0) ((L.drop k).take (m - k) ++ L.take k) (.agg #[.slice none 0 0, .slice a4 m c4])) := (show LasV _ _ _ _ from ⟨none, 0, a4, c4, by rw [Hl4.out]; rfl, .nil _ _, Hr4.out.chg hFF (fun a e h => by have := Hq4.out a e; have h : a.block = w.heap.size + 1 := h; omega)⟩)
            clear hFF hb1Y
            go_wp2
            exact bodyPost_ret (results15 rfl rfl HbF.out) rfl ⟨HcF.out, _, _, _, by rw [Hn0.out], HvF.out, fun _ => Hcan.out, fun h => absurd Hck.out h⟩
          · rw [if_pos (by kernel_rfl)]
            obtain ⟨VA, hVA, hcA, hsA, hbA⟩ := box_zero V3
            have hcA3 : Chg Nob w3 VA := (Hc3.out).trans1 hcA
            have hleA : w3.heap.size ≤ V3.heap.size := Hc3.out.size
            have HbA := Lib.hid hbA
            have HcA := Lib.hid hcA
            have HcA3 := Lib.hid (hcA3)
            have hHA := hSx.out _ HcA3.out
            go_simp
            rw [← hVA]
            clear hVA hbA hcA hcA3
            refine hK.out _ _ (fun _ => hSx.out _ HcA3.out) ?_
            clear hK K
            have HrowA := Lib.hid (ownsRow_chg (Hrow3.out) HcA.out (fun _ _ e => e))
            try simp only [Act.put]
            refine wpAnyG_ready (rs := [10]) (by kernel_rfl) (by simp) ?_
            refine AllReadyG.cons rfl (fun K hK => ?_) AllReadyG.nil
            rw [if_pos (by kernel_rfl)]
            obtain ⟨v4, V4, hrun, hrow4, hgr, _⟩ := append25 (a := b) (M := L.take k) cl (HrowA.out) (HcA3.out.size) (by rw [List.length_take]; omega) (row_take (HL3.out.nob HcA3.out) k)
            have hlt4 : (L.take k).length = k := by rw [List.length_take]; omega
            have hln4 : m - k + (L.take k).length = m := by rw [hlt4]; omega
            rw [hlt4] at hrun
            rw [hln4] at hrow4
            have hc4 : Chg Nob w3 V4 := (HcA3.out).trans (S' := fun b => v3.ownBlock = some b) ((Chg.refl _ _).grown hgr (fun k e _ => e)) (fun i hi e => by have := ((HrowA.out).lt i e).1; omega)
            obtain ⟨a4, c4, rfl⟩ := ownsRow_shape hrow4
            have Hrow4 := Lib.hid hrow4
            have Hc4 := Lib.hid hc4
            have hH4 := hSx.out V4 hc4
            have HbA4 := Lib.hid (((Chg.refl (fun b => v3.ownBlock = some b) _).grown hgr (fun k e _ => e)).at HbA.out (fun e => (ownsRow_ne_type (HrowA.out) HbA.out (by decide) _ e).2 rfl))
            refine wp_append_known (.tmp 55) (.tmp 59) 22 22 rfl _ _ rfl rfl _ _ hrun ?_
            clear hrow4 hc4 hrun hlt4 hln4 hgr
            refine hK.out _ _ (fun _ => hH4) ?_
            clear hK K
            try simp only [Act.put]
            refine wpAnyG_take (i := 11) (v := ?_) rfl (by kernel_rfl) (fun _ _ _ h => h) (Or.inl ⟨by kernel_rfl, ?_⟩) hH4 ?_
            rotate_left
            · intro w hSw; obtain ⟨c0, c1⟩ := hSw; go_simp; try (with_reducible rfl)
            try simp only [Act.put]
            refine wpAnyG_ready (rs := [13]) (by kernel_rfl) (by simp) ?_
            refine AllReadyG.cons rfl (fun K hK => ?_) AllReadyG.nil
            rw [if_pos (by kernel_rfl)]
            have hbD := HbA4.out
            have hDne : V3.heap.size ≠ w.heap.size := by omega
            obtain ⟨d0, d1, f0, f1⟩ := cell_two hbD
            have hcs := chg_two V4 (V3.heap.size) (.slice none 0 0) (.slice a4 m c4)
            have Hcs := Lib.hid hcs
            have Hb5 := Lib.hid (block_two_set1 (u := .slice a4 m c4) (block_two_set0 (u := .slice none 0 0) hbD))
            have hH5 : ((V4.setCell ⟨V3.heap.size, 0, none⟩ (.slice none 0 0)).setCell ⟨V3.heap.size, 1, none⟩ (.slice a4 m c4)).cell? ⟨w.heap.size, 0, none⟩ = some (.slice ap P.length cp) ∧ ((V4.setCell ⟨V3.heap.size, 0, none⟩ (.slice none 0 0)).setCell ⟨V3.heap.size, 1, none⟩ (.slice a4 m c4)).cell? ⟨w.heap.size, 1, none⟩ = some (.slice (some b) L.length cl) := by
              obtain ⟨c0, c1, _⟩ := cell_two (hcs.at ((Hc4.out).at Hb0.out (fun e => e)) (fun e => by have e : w.heap.size = V3.heap.size := e; omega))
              exact ⟨c0, c1⟩
            clear hcs hbD
            go_simp
            refine hK.out _ _ (fun _ => hH5) ?_
            clear hK K d0 d1 f0 f1
            try simp only [Act.put]
            refine wpAnyG_done (by kernel_rfl) ?_ _
            go_simp
            clear hHeld hH3 hHA hH4
            obtain ⟨c0, c1⟩ := hH5
            have Hrow6 := Lib.hid (ownsRow_chg (Hrow4.out) Hcs.out (fun k hk e => (ownsRow_ne_type (Hrow4.out) (HbA4.out) (by decide) k hk).2 e))
            have HcV := Lib.hid (Hc4.out)
            obtain ⟨Y, hY⟩ : ∃ Y, Y = (V4.setCell ⟨V3.heap.size, 0, none⟩ (Value.slice none 0 0)).setCell ⟨V3.heap.size, 1, none⟩ (.slice a4 m c4) := ⟨_, rfl⟩
            rw [← hY] at Hcs Hb5 Hrow6 c0 c1 ⊢
            obtain ⟨D, hD⟩ : ∃ D, D = V3.heap.size := ⟨_, rfl⟩
            rw [← hD] at Hcs Hb5 hDne hleA ⊢
            have hb1Y := Hcs.out.at (HcV.out.at Hb1.out (fun e => e)) (fun e => by have e : w.heap.size + 1 = D := e; omega)
            have HcwY : Hid (Chg Nob w Y) := (show Chg Nob w Y from (Hcw3.out.trans1 HcV.out).trans Hcs.out (fun i hi e => by have e : i = D := e; omega))
            have hszY := Hcs.out.size
            have hszV := HcV.out.size
            have HrowY := Lib.hid Hrow6.out
            clear hY hD Hrow3 Hrow4 Hrow6 HbA HcA HcV3 hSx Hc4 Hc3 HbA4 HcA3 HcW hsA HrowA
            obtain ⟨e4, g4, h4, r4, q4⟩ := URow.own (M := (L.drop k).take (m - k) ++ L.take k) (by have := HrowY.out; rwa [show uvs ((L.drop k).take (m - k)) ++ uvs (L.take k) = uvs ((L.drop k).take (m - k) ++ L.take k) by unfold uvs; rw [List.map_append]] at this) (by rw [List.length_append, List.length_take, List.length_take, List.length_drop]; omega)
            have hl4 : ((L.drop k).take (m - k) ++ L.take k).length = m := by rw [List.length_append, List.length_take, List.length_take, List.length_drop]; omega
            rw [hl4] at h4
            cases h4
            have hne4 : ∀ a, a4 = some a → a.block ≠ D := fun a e => (ownsRow_ne_type HrowY.out Hb5.out (by decide) a.block (by rw [e]; rfl)).2
            have Hl4 := Lib.hid hl4
            have Hr4 := Lib.hid r4
            have Hq4 := Lib.hid q4
            have Hne4 := Lib.hid hne4
            clear hl4 r4 q4 hne4 HrowY
            obtain ⟨e0, e1, g0, g1⟩ := cell_two Hb5.out
            obtain ⟨p0, p1, s0, s1⟩ := cell_two hb1Y
            have hFF := chg_two Y (w.heap.size + 1) (.slice none 0 0) (.slice a4 m c4)
            have HbF := Lib.hid (block_two_set1 (u := .slice a4 m c4) (block_two_set0 (u := .slice none 0 0) hb1Y))
            have HcF : Hid (Chg Nob w ((Y.setCell ⟨w.heap.size + 1, 0, none⟩ (.slice none 0 0)).setCell ⟨w.heap.size + 1, 1, none⟩ (.slice a4 m c4))) := (show Chg Nob w _ from HcwY.out.trans hFF (fun i hi e => by have e : i = w.heap.size + 1 := e; omega))
            have HvF : Hid (LasV ((Y.setCell ⟨w.heap.size + 1, 0, none⟩ (.slice none 0 0)).setCell ⟨w.heap.size + 1, 1, none⟩ (.slice a4 m c4)) (P.take 0) ((L.drop k).take (m - k) ++ L.take k) (.agg #[.slice none 0 0, .slice a4 m c4])) := (show LasV _ _ _ _ from ⟨none, 0, a4, c4, by rw [Hl4.out]; rfl, .nil _ _, Hr4.out.chg hFF (fun a e h => by have := Hq4.out a e; have h : a.block = w.heap.size + 1 := h; omega)⟩)
            clear hFF hb1Y
            go_wp2
            exact bodyPost_ret (results15 rfl rfl HbF.out) rfl ⟨HcF.out, _, _, _, by rw [Hn0.out], HvF.out, fun _ => Hcan.out, fun h => absurd Hck.out h⟩
        · rw [if_pos (by kernel_rfl)]
          obtain ⟨VA, hVA, hcA, hsA, hbA⟩ := box_zero W
          have hcA3 : Chg Nob w3 VA := (HcW.out).trans1 hcA
          have hleA : w3.heap.size ≤ W.heap.size := hzW
          have HbA := Lib.hid hbA
          have HcA := Lib.hid hcA
          have HcA3 := Lib.hid (hcA3.drew)
          have hHA := hSx.out _ HcA3.out
          go_simp
          rw [← hVA]
          clear hVA hbA hcA hcA3
          refine hK.out _ _ (fun _ => hSx.out _ HcA3.out) ?_
          clear hK K
          try simp only [Act.put]
          refine wpAnyG_ready (rs := [5]) (by kernel_rfl) (by simp) ?_
          refine AllReadyG.cons rfl (fun K hK => ?_) AllReadyG.nil
          rw [if_pos (by kernel_rfl)]
          go_simp
          have hp := clone_row (w := VA.drew) (a := b.add k) (M := (L.drop k).take (m - k)) (n := m - k) (c := cl - k) (by rw [List.length_take, List.length_drop]; omega) (by omega) (fun j x hj => row_drop (HL3.out.nob HcA3.out) k j x (by have hj2 := (List.getElem?_eq_some_iff.1 hj).1; rw [List.length_take] at hj2; rwa [List.getElem?_take_of_lt (by omega)] at hj))
          have Hp := Lib.hid hp
          clear hp
          (with_reducible refine Hp.out.mono ?_)
          clear Hp
          rintro e V3 ⟨hc3, v3, rfl, hrow3⟩
          have hcV3 : Chg Nob VA.drew V3 := hc3
          have hc3 : Chg Nob w3 V3 := (HcA3.out).trans1 hc3
          have hsz3 := hcV3.size
          have HcV3 := Lib.hid hcV3
          have Hrow3 := Lib.hid (ownsRow_mono hrow3 (HcA3.out.size))
          have Hc3 := Lib.hid hc3
          have hH3 := hSx.out V3 hc3
          clear hrow3 hc3 hcV3
          refine hK.out _ _ (fun _ => hSx.out _ Hc3.out) ?_
          clear hK K
          try simp only [Act.put]
          refine wpAnyG_ready (rs := [10]) (by kernel_rfl) (by simp) ?_
          refine AllReadyG.cons rfl (fun K hK => ?_) AllReadyG.nil
          rw [if_pos (by kernel_rfl)]
          obtain ⟨v4, V4, hrun, hrow4, hgr, _⟩ := append25 (a := b) (M := L.take k) cl (Hrow3.out) (Hc3.out.size) (by rw [List.length_take]; omega) (row_take (HL3.out.nob Hc3.out) k)
          have hlt4 : (L.take k).length = k := by rw [List.length_take]; omega
          have hln4 : m - k + (L.take k).length = m := by rw [hlt4]; omega
          rw [hlt4] at hrun
          rw [hln4] at hrow4
          have hc4 : Chg Nob w3 V4 := (Hc3.out).trans (S' := fun b => v3.ownBlock = some b) ((Chg.refl _ _).grown hgr (fun k e _ => e)) (fun i hi e => by have := ((Hrow3.out).lt i e).1; omega)
          obtain ⟨a4, c4, rfl⟩ := ownsRow_shape hrow4
          have Hrow4 := Lib.hid hrow4
          have Hc4 := Lib.hid hc4
          have hH4 := hSx.out V4 hc4
          have HbA4 := Lib.hid (((HcV3.out.any (S := fun b => v3.ownBlock = some b)).trans1 ((Chg.refl _ _).grown hgr (fun k e _ => e))).at HbA.out (fun e => (ownsRow_ne_type (Hrow3.out) (HcV3.out.at HbA.out (fun e => e)) (by decide) _ e).2 rfl))
          refine wp_append_known (.tmp 55) (.tmp 59) 22 22 rfl _ _ rfl rfl _ _ hrun ?_
          clear hrow4 hc4 hrun hlt4 hln4 hgr
          refine hK.out _ _ (fun _ => hH4) ?_
          clear hK K
          try simp only [Act.put]
          refine wpAnyG_take (i := 11) (v := ?_) rfl (by kernel_rfl) (fun _ _ _ h => h) (Or.inl ⟨by kernel_rfl, ?_⟩) hH4 ?_
          rotate_left
          · intro w hSw; obtain ⟨c0, c1⟩ := hSw; go_simp; try (with_reducible rfl)
          try simp only [Act.put]
          refine wpAnyG_ready (rs := [13]) (by kernel_rfl) (by simp) ?_
          refine AllReadyG.cons rfl (fun K hK => ?_) AllReadyG.nil
          rw [if_pos (by kernel_rfl)]
          have hbD := HbA4.out
          have hDne : W.heap.size ≠ w.heap.size := by omega
          obtain ⟨d0, d1, f0, f1⟩ := cell_two hbD
          have hcs := chg_two V4 (W.heap.size) (.slice none 0 0) (.slice a4 m c4)
          have Hcs := Lib.hid hcs
          have Hb5 := Lib.hid (block_two_set1 (u := .slice a4 m c4) (block_two_set0 (u := .slice none 0 0) hbD))
          have hH5 : ((V4.setCell ⟨W.heap.size, 0, none⟩ (.slice none 0 0)).setCell ⟨W.heap.size, 1, none⟩ (.slice a4 m c4)).cell? ⟨w.heap.size, 0, none⟩ = some (.slice ap P.length cp) ∧ ((V4.setCell ⟨W.heap.size, 0, none⟩ (.slice none 0 0)).setCell ⟨W.heap.size, 1, none⟩ (.slice a4 m c4)).cell? ⟨w.heap.size, 1, none⟩ = some (.slice (some b) L.length cl) := by
            obtain ⟨c0, c1, _⟩ := cell_two (hcs.at ((Hc4.out).at Hb0.out (fun e => e)) (fun e => by have e : w.heap.size = W.heap.size := e; omega))
            exact ⟨c0, c1⟩
          clear hcs hbD
          go_simp
          refine hK.out _ _ (fun _ => hH5) ?_
          clear hK K d0 d1 f0 f1
          try simp only [Act.put]
          refine wpAnyG_done (by kernel_rfl) ?_ _
          go_simp
          clear hHeld hH3 hHA hH4
          obtain ⟨c0, c1⟩ := hH5
          have Hrow6 := Lib.hid (ownsRow_chg (Hrow4.out) Hcs.out (fun k hk e => (ownsRow_ne_type (Hrow4.out) (HbA4.out) (by decide) k hk).2 e))
          have HcV := Lib.hid (Hc4.out)
          obtain ⟨Y, hY⟩ : ∃ Y, Y = (V4.setCell ⟨W.heap.size, 0, none⟩ (Value.slice none 0 0)).setCell ⟨W.heap.size, 1, none⟩ (.slice a4 m c4) := ⟨_, rfl⟩
          rw [← hY] at Hcs Hb5 Hrow6 c0 c1 ⊢
          obtain ⟨D, hD⟩ : ∃ D, D = W.heap.size := ⟨_, rfl⟩
          rw [← hD] at Hcs Hb5 hDne hleA ⊢
          have hb1Y := Hcs.out.at (HcV.out.at Hb1.out (fun e => e)) (fun e => by have e : w.heap.size + 1 = D := e; omega)
          have HcwY : Hid (Chg Nob w Y) := (show Chg Nob w Y from (Hcw3.out.trans1 HcV.out).trans Hcs.out (fun i hi e => by have e : i = D := e; omega))
          have hszY := Hcs.out.size
          have hszV := HcV.out.size
          have HrowY := Lib.hid Hrow6.out
          clear hY hD Hrow3 Hrow4 Hrow6 HbA HcA HcV3 hSx Hc4 Hc3 HbA4 HcA3 HcW hsA
          obtain ⟨e4, g4, h4, r4, q4⟩ := URow.own (M := (L.drop k).take (m - k) ++ L.take k) (by have := HrowY.out; rwa [show uvs ((L.drop k).take (m - k)) ++ uvs (L.take k) = uvs ((L.drop k).take (m - k) ++ L.take k) by unfold uvs; rw [List.map_append]] at this) (by rw [List.length_append, List.length_take, List.length_take, List.length_drop]; omega)
          have hl4 : ((L.drop k).take (m - k) ++ L.take k).length = m := by rw [List.length_append, List.length_take, List.length_take, List.length_drop]; omega
          rw [hl4] at h4
          cases h4
          have hne4 : ∀ a, a4 = some a → a.block ≠ D := fun a e => (ownsRow_ne_type HrowY.out Hb5.out (by decide) a.block (by rw [e]; rfl)).2
          have Hl4 := Lib.hid hl4
          have Hr4 := Lib.hid r4
          have Hq4 := Lib.hid q4
          have Hne4 := Lib.hid hne4
          clear hl4 r4 q4 hne4 HrowY
          obtain ⟨e0, e1, g0, g1⟩ := cell_two Hb5.out
          obtain ⟨p0, p1, s0, s1⟩ := cell_two hb1Y
          have hFF := chg_two Y (w.heap.size + 1) (.slice none 0 0) (.slice a4 m c4)
          have HbF := Lib.hid (block_two_set1 (u := .slice a4 m c4) (block_two_set0 (u := .slice none 0 0) hb1Y))
          have HcF : Hid (Chg Nob w ((Y.setCell ⟨w.heap.size + 1, 0, none⟩ (.slice none 0 0)).setCell ⟨w.heap.size + 1, 1, none⟩ (.slice a4 m c4))) := (show Chg Nob w _ from HcwY.out.trans hFF (fun i hi e => by have e : i = w.heap.size + 1 := e; omega))
          have HvF : Hid (LasV ((Y.setCell ⟨w.heap.size + 1, 0, none⟩ (.slice none 0 0)).setCell ⟨w.heap.size + 1, 1, none⟩ (.slice a4 m c4)) (P.take 0) ((L.drop k).take (m - k) ++ L.take k) (.agg #[.slice none 0 0, .slice a4 m c4])) := (show LasV _ _ _ _ from ⟨none, 0, a4, c4, by rw [Hl4.out]; rfl, .nil _ _, Hr4.out.chg hFF (fun a e h => by have := Hq4.out a e; have h : a.block = w.heap.size + 1 := h; omega)⟩)
          clear hFF hb1Y
          go_wp2
          exact bodyPost_ret (results15 rfl rfl HbF.out) rfl ⟨HcF.out, _, _, _, by rw [Hn0.out], HvF.out, fun _ => Hcan.out, fun h => absurd Hck.out h⟩
end
end Go.Proofs.Ytkgfdgfhpdhhaaa
