/- The shortest telling of a lasso's word, by the reference. Conditions: the rows lie in the world, they are short. -/
import Derived.Test.YtkgfdgfhpdhhaaaRsuf
import Derived.Test.YtkgfdgfhpdhhaaaRlsame
namespace Go.Proofs.Ytkgfdgfhpdhhaaa
open Go.ChangeShapes Go.WideShapes Go.RowKit

/-- Letters of a word, from s on. -/
def wseg (P L : List Int) (s n : Nat) : List Int := (List.range n).map (fun j => (wordO P L (s + j)).getD 0)
theorem wseg_length (P L : List Int) (s n : Nat) : (wseg P L s n).length = n := by unfold wseg; rw [List.length_map, List.length_range]
theorem wseg_snoc {P L : List Int} {s n : Nat} {x : Int} (h : wordO P L (s + n) = some x) : wseg P L s (n + 1) = wseg P L s n ++ [x] := by
  unfold wseg
  rw [List.range_succ, List.map_append, List.map_singleton, h]; rfl
theorem wseg_at {P L : List Int} (h0 : 0 < L.length) {s n i : Nat} (h : i < n) : (wseg P L s n)[i]? = wordO P L (s + i) := by
  obtain ⟨x, hx⟩ := wordO_some (P := P) h0 (s + i)
  unfold wseg
  rw [List.getElem?_map, List.getElem?_range h, hx]
  show some ((wordO P L (s + i)).getD 0) = some x
  rw [hx]; rfl
theorem results16 {rb : Nat} {c : Int} {tm : Array Value} {w : World} {x y : Value} (h2 : tm[2]? = some (.pointer (some ⟨rb, 0, none⟩))) (h3 : tm[3]? = some (.int .i64 c)) (hb : w.heap[rb]? = some (.cells #[x, y] 24 (0, 0))) :
    (results Try.f16 tm).run Try.prog w = .ok (.tuple #[.agg #[x, y], .int .i64 c]) w := by
  have c0 := (cell_two hb).1
  have c1 := (cell_two hb).2.1
  simp [results, Try.results16, go_sem, h2, h3, c0, c1]
def IsSo (p : Prop) (b : Bool) : Prop := b = true ↔ p
section
variable {ap al : Option Addr} {cp cl : Nat} {P L : List Int} {w : World}
set_option maxRecDepth 100000 in
set_option maxHeartbeats 16000000 in
theorem rcanon_any (hl : P.length + L.length ≤ 10000) (hP : URow w ap P) (hL : URow w al L) :
    Calls Try.prog 16 #[.agg #[.slice ap P.length cp, .slice al L.length cl]] w (CanPost P L (lcheckN P.length L.length) w) := by
  obtain ⟨X, hX, hcX, hb0, hb1⟩ : ∃ X, X = (w.alloc (.cells #[.slice ap P.length cp, .slice al L.length cl] 24)).alloc (.cells #[.slice none 0 0, .slice none 0 0] 24) ∧ Chg Nob w X ∧ X.heap[w.heap.size]? = some (.cells #[.slice ap P.length cp, .slice al L.length cl] 24 (0, 0)) ∧ X.heap[w.heap.size + 1]? = some (.cells #[.slice none 0 0, .slice none 0 0] 24 (0, 0)) := by
    have h1 := heap_alloc_new (w.alloc (.cells #[.slice ap P.length cp, .slice al L.length cl] 24)) (.cells #[.slice none 0 0, .slice none 0 0] 24)
    rw [World.size_alloc] at h1
    exact ⟨_, rfl, ((Chg.refl _ _).alloc _).alloc _, ((Chg.refl Nob _).alloc _).at (heap_alloc_new w _) (fun e => e), h1⟩
  have hck := rlcheck_any (cp := cp) (cl := cl) (ap := ap) (al := al) (w := X) P.length L.length hl
  have HPX := Lib.hid (hP.nob hcX)
  have HLX := Lib.hid (hL.nob hcX)
  have HcX := Lib.hid hcX
  have Hb0 := Lib.hid hb0
  have Hb1 := Lib.hid hb1
  obtain ⟨c0, c1, _⟩ := cell_two hb0
  rw [hX] at c0 c1
  obtain ⟨n, hn⟩ : ∃ n, n = lcheckN P.length L.length := ⟨_, rfl⟩
  rw [← hn] at hck ⊢
  have Hn := Lib.hid hn
  clear hP hL hcX hb0 hb1 hn
  go_enter Try.func16, Try.ntmps16
  go_wp2_with fail
  rw [← hX]
  clear hX c0 c1
  (with_reducible refine hck.mono ?_)
  clear hck
  rintro e w2 ⟨rfl, hc2⟩
  cases h0 : (n == 0) with
  | false =>
    have hne : (n != 0) = true := by rw [bne, h0]; rfl
    have Hs : Hid (lcheckN P.length L.length ≠ 0) := (show _ ≠ _ from fun e => beq_eq_false_iff_ne.1 h0 (by rw [Hn.out, e]))
    obtain ⟨d0, d1, f0, f1⟩ := cell_two (hc2.at Hb1.out (fun e => e))
    have hb := hc2.at Hb1.out (fun e => e)
    have Hb := Lib.hid (block_two_set1 (u := .slice none 0 0) (block_two_set0 (u := .slice none 0 0) hb))
    have Hc : Hid (Chg Nob w ((w2.setCell ⟨w.heap.size + 1, 0, none⟩ (.slice none 0 0)).setCell ⟨w.heap.size + 1, 1, none⟩ (.slice none 0 0))) :=
      (HcX.out.trans1 hc2).trans (chg_two _ _ _ _) (fun i hi e => by have e : i = w.heap.size + 1 := e; omega)
    clear hb hc2
    go_wp2
    exact bodyPost_ret (results16 rfl rfl Hb.out) rfl ⟨Hc.out, [], [], _, rfl, .nil _, fun h => absurd h Hs.out, fun _ => ⟨rfl, rfl⟩⟩
  | true =>
    have hne : (n != 0) = false := by rw [bne, h0]; rfl
    have hck0 : lcheckN P.length L.length = 0 := by rw [← Hn.out]; exact beq_iff_eq.1 h0
    obtain ⟨hl0, hl1⟩ := lcheck_ok (np := P.length) (nl := L.length) (by rw [← Hn.out]; exact h0)
    have Hck := Lib.hid hck0
    have Hn0 : Hid (n = 0) := beq_iff_eq.1 h0
    have hsz : w.heap.size + 2 ≤ w2.heap.size := by
      have h := World.block_lt_of_cell? w2 ⟨w.heap.size + 1, 0, none⟩ (cell_two (hc2.at Hb1.out (fun e => e))).1
      have h : w.heap.size + 1 < w2.heap.size := h
      omega
    have HP := Lib.hid (HPX.out.nob hc2)
    have HL := Lib.hid (HLX.out.nob hc2)
    have Hcw2 := Lib.hid (HcX.out.trans1 hc2)
    have Hb0 := Lib.hid (hc2.at Hb0.out (fun e => e))
    have Hb1 := Lib.hid (hc2.at Hb1.out (fun e => e))
    have hpl : (P.length : Int) ≤ 10000 := by omega
    have hll : (L.length : Int) ≤ 10000 := by omega
    obtain ⟨y, hy⟩ : ∃ y, L[0]? = some y := ⟨_, List.getElem?_eq_getElem hl0⟩
    obtain ⟨b, rfl, _⟩ := HL.out 0 y hy
    have Hl0 := Lib.hid hl0
    have Hself : Hid (perOk L L.length) := ⟨Nat.mod_self _, fun k h1 h2 => absurd h1 (by omega)⟩
    clear hck0 hc2 HPX HLX HcX h0 Hn hl1 hy
    obtain ⟨c0, c1, _⟩ := cell_two Hb0.out
    go_wp2_with fail
    go_loopw [5, 6, 7, 8] (fun nv mv _ _ wr => ∃ n m : Nat, nv = .int .i64 (n : Int) ∧ mv = .int .i64 (m : Int) ∧ m ≤ L.length ∧ 1 ≤ n ∧ n ≤ L.length ∧ Hid (perOk L n ∧ ∀ m', m < m' → perOk L m' → n ≤ m') ∧ Chg Nob w2 wr) (fun _ mv _ _ _ => (intOf mv).toNat)
    case atStart => exact ⟨L.length, L.length, rfl, rfl, Nat.le_refl _, hl0, Nat.le_refl _, ⟨Hself.out, fun m' h _ => by omega⟩, Chg.refl _ _⟩
    case round =>
      obtain ⟨n', m, rfl, rfl, hm, hn1, hn2, hok, hcr⟩ := hrel
      clear c0 c1
      obtain ⟨c0, c1, _⟩ := cell_two (hcr.at Hb0.out (fun e => e))
      by_cases hm1 : 1 ≤ m
      · have hmi : (1 : Int) ≤ (m : Int) := by omega
        have hm0 : ¬ (m : Int) = 0 := by omega
        obtain ⟨r, hr⟩ : ∃ r, r = L.length % m := ⟨_, rfl⟩
        have hem : (L.length : Int) % (m : Int) = (r : Int) := by rw [hr]; rfl
        have htm : (L.length : Int).tmod (m : Int) = (r : Int) := by rw [Int.tmod_eq_emod_of_nonneg (by omega), hem]
        obtain ⟨b0, hb0⟩ : ∃ b0, b0 = (r == 0) := ⟨_, rfl⟩
        have hb0i : ((r : Int) == 0) = b0 := by rw [hb0]; cases r <;> rfl
        have Hst : Hid (IsSo (L.length % m = 0 ∧ ∀ k, m ≤ k → k < m → L[k]? = L[k - m]?) b0) := (show b0 = true ↔ _ from ⟨fun h => ⟨by rw [hb0, hr] at h; exact beq_iff_eq.1 h, fun k h1 h2 => absurd h1 (by omega)⟩, fun h => by rw [hb0, hr]; exact beq_iff_eq.2 h.1⟩)
        have Hr := Lib.hid hr
        clear hr hb0
        go_wp2_with fail
        go_loopw [7, 8] (fun bv iv wr' => ∃ (bb : Bool) (i : Nat), bv = .bool bb ∧ iv = .int .i64 (i : Int) ∧ m ≤ i ∧ i ≤ L.length ∧ Hid (IsSo (L.length % m = 0 ∧ ∀ k, m ≤ k → k < i → L[k]? = L[k - m]?) bb) ∧ Chg Nob w2 wr') (fun _ iv _ => L.length - (intOf iv).toNat)
        case atStart => exact ⟨b0, m, rfl, rfl, Nat.le_refl _, hm, Hst, hcr⟩
        case round =>
          clear hcr hem htm hb0i c0 c1
          obtain ⟨bb, i, rfl, rfl, hi1, hi2, hso, hcr⟩ := hrel
          obtain ⟨c0, c1, _⟩ := cell_two (hcr.at Hb0.out (fun e => e))
          have Hyes : Hid (bb = true → ¬ i < L.length → perOk L m) := (show bb = true → ¬ i < L.length → perOk L m from fun hb hi => by
            obtain ⟨h1, h2⟩ := (hso.out).1 hb
            exact ⟨h1, fun k h3 h4 => h2 k h3 (by omega)⟩)
          have Hno : Hid (bb = false → ¬ perOk L m) := (show bb = false → ¬ perOk L m from fun hb ho => by
            have := (hso.out).2 ⟨ho.1, fun k h3 h4 => ho.2 k h3 (by omega)⟩
            rw [hb] at this
            cases this)
          have HyesR : Hid (perOk L m → perOk L m ∧ ∀ m', m - 1 < m' → perOk L m' → m ≤ m') := (show _ from fun ho => ⟨ho, fun m' h _ => by omega⟩)
          have HnoR : Hid (¬ perOk L m → perOk L n' ∧ ∀ m', m - 1 < m' → perOk L m' → n' ≤ m') := (show _ from fun ho => ⟨hok.out.1, fun m' h h2 => by
            by_cases e : m' = m
            · subst e; exact absurd h2 ho
            · exact hok.out.2 m' (by omega) h2⟩)
          obtain ⟨g, hg⟩ : ∃ g, g = m - 1 := ⟨_, rfl⟩
          have hgi : (m : Int) - 1 = (g : Int) := by omega
          rw [← hg] at HyesR HnoR
          have hgm : g < m := by omega
          clear hg
          by_cases hlt : i < L.length
          · have hil : (i : Int) < (L.length : Int) := by omega
            have hi0 : (0 : Int) ≤ (i : Int) := by omega
            cases bb with
            | true =>
              have hx := List.getElem?_eq_getElem hlt
              have hy := List.getElem?_eq_getElem (show i - m < L.length by omega)
              obtain ⟨x, hxe⟩ : ∃ x, x = L[i] := ⟨_, rfl⟩
              obtain ⟨y, hye⟩ : ∃ y, y = L[i - m]'(by omega) := ⟨_, rfl⟩
              rw [← hxe] at hx
              rw [← hye] at hy
              obtain ⟨_, e, hca⟩ := HL.out i x hx
              cases e
              obtain ⟨_, e, hcb⟩ := HL.out _ y hy
              cases e
              have hca := hcr.cell' hca (fun e => e)
              have hcb := hcr.cell' hcb (fun e => e)
              obtain ⟨d, hd⟩ : ∃ d, d = i - m := ⟨_, rfl⟩
              rw [← hd] at hcb
              have hdi : (i : Int) - (m : Int) = (d : Int) := by omega
              have hd0 : (0 : Int) ≤ (d : Int) := by omega
              have hdl : (d : Int) < (L.length : Int) := by omega
              have Hs : Hid (IsSo (L.length % m = 0 ∧ ∀ k, m ≤ k → k < i + 1 → L[k]? = L[k - m]?) (x == y)) := (show (x == y) = true ↔ _ by
                obtain ⟨h1, h2⟩ := (hso.out).1 rfl
                rw [beq_iff_eq]
                refine ⟨fun e => ⟨h1, fun k h3 h4 => ?_⟩, fun h => ?_⟩
                · by_cases e2 : k = i
                  · subst e2; rw [hx, hy, e]
                  · exact h2 k h3 (by omega)
                · have := h.2 i hi1 (by omega)
                  rw [hx, hy] at this
                  cases this; rfl)
              obtain ⟨z, hz⟩ : ∃ z, z = (x == y) := ⟨_, rfl⟩
              rw [← hz] at Hs
              have hzz : (x == y) = z := hz.symm
              clear hx hy hxe hye hd hz
              go_wp2_with fail
              go_quiet (fail)
              go_wp2_with fail
              go_roundw
              case rel => exact ⟨z, i + 1, rfl, by go_num, by omega, hlt, Hs, hcr.drewN _⟩
              case measure => simp [intOf]; omega
            | false =>
              have hR := Lib.hid (HnoR.out (Hno.out rfl))
              clear Hyes Hno HyesR HnoR
              go_wp2_with fail
              go_roundw
              case rel => exact ⟨n', g, rfl, rfl, by omega, hn1, hn2, hR, hcr⟩
              case measure => simp [intOf]; omega
          · have hil : ¬ (i : Int) < (L.length : Int) := by omega
            cases bb with
            | true =>
              have hR := Lib.hid (HyesR.out (Hyes.out rfl hlt))
              clear Hyes Hno HyesR HnoR
              go_wp2_with fail
              go_roundw
              case rel => exact ⟨m, g, rfl, rfl, by omega, hm1, hm, hR, hcr⟩
              case measure => simp [intOf]; omega
            | false =>
              have hR := Lib.hid (HnoR.out (Hno.out rfl))
              clear Hyes Hno HyesR HnoR
              go_wp2_with fail
              go_roundw
              case rel => exact ⟨n', g, rfl, rfl, by omega, hn1, hn2, hR, hcr⟩
              case measure => simp [intOf]; omega
      · obtain rfl : m = 0 := by omega
        have hmi : ¬ (1 : Int) ≤ 0 := by omega
        go_wp2_with fail
        have Hleast : Hid (∀ m, 1 ≤ m → m < n' → ¬ perOk L m) := (show ∀ m, 1 ≤ m → m < n' → ¬ perOk L m from fun m h1 h2 ho => by have := hok.out.2 m h1 ho; omega)
        have Hper0 : Hid (Per (wordO P L) n' P.length) := (show Per (wordO P L) n' P.length from hok.out.1.per)
        have hni : (n' : Int) ≤ 10000 := by omega
        obtain ⟨W1, hW1⟩ : ∃ W1, W1 = wr := ⟨_, rfl⟩
        rw [← hW1] at hcr ⊢
        have HcW1 := Lib.hid hcr
        clear hok hm hm1 hmi hW1 hcr c0 c1 Hself
        obtain ⟨c0, c1, _⟩ := cell_two (HcW1.out.at Hb0.out (fun e => e))
        go_loopw [9] (fun pv wr => ∃ p : Nat, pv = .int .i64 (p : Int) ∧ p ≤ P.length ∧ Hid (Per (wordO P L) n' p) ∧ Chg Nob w2 wr) (fun pv _ => (intOf pv).toNat)
        case atStart => exact ⟨P.length, rfl, Nat.le_refl _, Hper0, HcW1.out⟩
        case round =>
          obtain ⟨p, rfl, hp, hper, hcr⟩ := hrel
          clear c0 c1
          have hS : ∀ w', Chg Nob w2 w' → w'.cell? ⟨w.heap.size, 0, none⟩ = some (.slice ap P.length cp) ∧ w'.cell? ⟨w.heap.size, 1, none⟩ = some (.slice (some b) L.length cl) := fun w' h => by
            obtain ⟨c0, c1, _⟩ := cell_two (h.at Hb0.out (fun e => e))
            exact ⟨c0, c1⟩
          have hSx := Lib.hid hS
          obtain ⟨c0, c1⟩ := hS _ hcr
          clear hS
          have HperF := Lib.hid hper.out
          by_cases hp0 : 0 < p
          · obtain ⟨g, hg⟩ : ∃ g, g = p - 1 := ⟨_, rfl⟩
            obtain ⟨q, hq⟩ : ∃ q, q = g + n' := ⟨_, rfl⟩
            have hgi : (p : Int) - 1 = (g : Int) := by omega
            have hqi : (g : Int) + (n' : Int) = (q : Int) := by omega
            have hg0 : (0 : Int) ≤ (g : Int) := by omega
            have hq0 : (0 : Int) ≤ (q : Int) := by omega
            have hq1 : (q : Int) ≤ 30000 := by omega
            have hg1 : (g : Int) ≤ 30000 := by omega
            have hpi : (0 : Int) < (p : Int) := by omega
            have hpi1 : (p : Int) ≤ 10000 := by omega
            obtain ⟨x, hx⟩ := wordO_some (P := P) Hl0.out g
            obtain ⟨y, hy⟩ := wordO_some (P := P) Hl0.out q
            have Hx := Lib.hid hx
            have Hy := Lib.hid hy
            have Hg : Hid (p = g + 1) := (show p = g + 1 by omega)
            have Hq := Lib.hid hq
            clear hx hy hg hq
            cases hxy : (x == y) with
            | true =>
              have Hnext : Hid (Per (wordO P L) n' g) := (show Per (wordO P L) n' g by
                have h := hper.out
                rw [Hg.out] at h
                exact h.back (by rw [← Hq.out, Hx.out, Hy.out, beq_iff_eq.1 hxy]))
              go_wp2_with fail
              refine wp_region_free (fun _ => true) (fun w' => w'.cell? ⟨w.heap.size, 0, none⟩ = some (.slice ap P.length cp) ∧ w'.cell? ⟨w.heap.size, 1, none⟩ = some (.slice (some b) L.length cl)) (by kernel_rfl) ⟨c0, c1⟩ (fun hHeld => ?_)
              refine wpAnyG_take (i := 0) (v := ?_) rfl (by kernel_rfl) (fun _ _ _ h => h) (Or.inl ⟨by rfl, ?_⟩) hHeld ?_
              rotate_left
              · intro w hSw; obtain ⟨c0, c1⟩ := hSw; go_simp; (try (with_reducible rfl))
              simp only [Act.put, List.setIfInBounds_toArray]
              refine wpAnyG_take (i := 1) (v := ?_) rfl (by kernel_rfl) (fun _ _ _ h => h) (Or.inl ⟨by rfl, ?_⟩) hHeld ?_
              rotate_left
              · intro w hSw; obtain ⟨c0, c1⟩ := hSw; go_simp; (try (with_reducible rfl))
              try simp only [Act.put]
              refine wpAnyG_take (i := 2) (v := ?_) rfl (by kernel_rfl) (fun _ _ _ h => h) (Or.inl ⟨by rfl, ?_⟩) hHeld ?_
              rotate_left
              · intro w hSw; obtain ⟨c0, c1⟩ := hSw; go_simp; (try (with_reducible rfl))
              try simp only [Act.put]
              refine wpAnyG_take (i := 3) (v := ?_) rfl (by kernel_rfl) (fun _ _ _ h => h) (Or.inl ⟨by rfl, ?_⟩) hHeld ?_
              rotate_left
              · intro w hSw; obtain ⟨c0, c1⟩ := hSw; go_simp; (try (with_reducible rfl))
              try simp only [Act.put]
              refine wpAnyG_take (i := 4) (v := ?_) rfl (by kernel_rfl) (fun _ _ _ h => h) (Or.inl ⟨by kernel_rfl, ?_⟩) hHeld ?_
              rotate_left
              · intro w hSw; obtain ⟨c0, c1⟩ := hSw; go_simp; (try (with_reducible rfl))
              try simp only [Act.put]
              refine wpAnyG_take (i := 5) (v := ?_) rfl (by kernel_rfl) (fun _ _ _ h => h) (Or.inl ⟨by kernel_rfl, ?_⟩) hHeld ?_
              rotate_left
              · intro w hSw; obtain ⟨c0, c1⟩ := hSw; go_simp; (try go_bits); (try (with_reducible rfl))
              try simp only [Act.put]
              refine wpAnyG_take (i := 6) (v := ?_) rfl (by kernel_rfl) (fun _ _ _ h => h) (Or.inl ⟨by kernel_rfl, ?_⟩) hHeld ?_
              rotate_left
              · intro w hSw; obtain ⟨c0, c1⟩ := hSw; go_simp; (try go_bits); (try (with_reducible rfl))
              try simp only [Act.put]
              refine wpAnyG_take (i := 8) (v := ?_) rfl (by kernel_rfl) (fun _ _ _ h => h) (Or.inl ⟨by kernel_rfl, ?_⟩) hHeld ?_
              rotate_left
              · intro w hSw; obtain ⟨c0, c1⟩ := hSw; go_simp; (try (with_reducible rfl))
              try simp only [Act.put]
              refine wpAnyG_take (i := 9) (v := ?_) rfl (by kernel_rfl) (fun _ _ _ h => h) (Or.inl ⟨by kernel_rfl, ?_⟩) hHeld ?_
              rotate_left
              · intro w hSw; obtain ⟨c0, c1⟩ := hSw; go_simp; (try (with_reducible rfl))
              try simp only [Act.put]
              refine wpAnyG_take (i := 10) (v := ?_) rfl (by kernel_rfl) (fun _ _ _ h => h) (Or.inl ⟨by kernel_rfl, ?_⟩) hHeld ?_
              rotate_left
              · intro w hSw; obtain ⟨c0, c1⟩ := hSw; go_simp; (try go_bits); (try (with_reducible rfl))
              try simp only [Act.put]
              refine wpAnyG_take (i := 11) (v := ?_) rfl (by kernel_rfl) (fun _ _ _ h => h) (Or.inl ⟨by kernel_rfl, ?_⟩) hHeld ?_
              rotate_left
              · intro w hSw; obtain ⟨c0, c1⟩ := hSw; go_simp; (try (with_reducible rfl))
              try simp only [Act.put]
              refine wpAnyG_take (i := 12) (v := ?_) rfl (by kernel_rfl) (fun _ _ _ h => h) (Or.inl ⟨by kernel_rfl, ?_⟩) hHeld ?_
              rotate_left
              · intro w hSw; obtain ⟨c0, c1⟩ := hSw; go_simp; (try go_bits); (try (with_reducible rfl))
              try simp only [Act.put]
              refine wpAnyG_take (i := 13) (v := ?_) rfl (by kernel_rfl) (fun _ _ _ h => h) (Or.inl ⟨by kernel_rfl, ?_⟩) hHeld ?_
              rotate_left
              · intro w hSw; obtain ⟨c0, c1⟩ := hSw; go_simp; (try go_bits); (try (with_reducible rfl))
              try simp only [Act.put]
              refine wpAnyG_ready (rs := [7]) (by kernel_rfl) (by simp) ?_
              refine AllReadyG.cons rfl (fun K hK => ?_) AllReadyG.nil
              rw [if_pos (by kernel_rfl)]
              go_simp
              have hp := wletter_any (w := wr.drew) (ap := ap) (al := some b) (cp := cp) (cl := cl) (by omega) Hl0.out (HP.out.nob hcr.drew) (HL.out.nob hcr.drew) g (by omega) Hx.out
              (with_reducible refine hp.mono ?_)
              clear hp
              rintro e V1 ⟨rfl, hcV1⟩
              have HcV1 := Lib.hid ((hcr.drew).trans1 hcV1)
              have hHV1 := hSx.out _ HcV1.out
              refine hK.out _ _ (fun _ => hSx.out _ HcV1.out) ?_
              clear hK K hcV1
              try simp only [Act.put]
              refine wpAnyG_ready (rs := [14]) (by kernel_rfl) (by simp) ?_
              refine AllReadyG.cons rfl (fun K hK => ?_) AllReadyG.nil
              rw [if_pos (by kernel_rfl)]
              go_simp
              have hp := wletter_any (w := V1) (ap := ap) (al := some b) (cp := cp) (cl := cl) (by omega) Hl0.out (HP.out.nob HcV1.out) (HL.out.nob HcV1.out) q (by omega) Hy.out
              (with_reducible refine hp.mono ?_)
              clear hp
              rintro e V2 ⟨rfl, hcV2⟩
              have HcV2 := Lib.hid ((HcV1.out).trans1 hcV2)
              have hHV2 := hSx.out _ HcV2.out
              refine hK.out _ _ (fun _ => hSx.out _ HcV2.out) ?_
              clear hK K hcV2
              try simp only [Act.put]
              refine wpAnyG_take (i := 15) (v := ?_) rfl (by kernel_rfl) (fun _ _ _ h => h) (Or.inl ⟨by kernel_rfl, ?_⟩) hHV2 ?_
              rotate_left
              · intro w hSw; obtain ⟨c0, c1⟩ := hSw; go_simp; (try (with_reducible rfl))
              try simp only [Act.put]
              refine wpAnyG_take (i := 16) (v := ?_) rfl (by kernel_rfl) (fun _ _ _ h => h) (Or.inl ⟨by kernel_rfl, ?_⟩) hHV2 ?_
              rotate_left
              · intro w hSw; obtain ⟨c0, c1⟩ := hSw; go_simp; (try (with_reducible rfl))
              try simp only [Act.put]
              refine wpAnyG_done (by kernel_rfl) ?_ _
              go_simp
              go_wp2_with fail
              go_roundw
              case rel => exact ⟨g, rfl, by omega, Hnext, HcV2.out⟩
              case measure => simp [intOf]; omega
            | false =>
              have Hstop : Hid (p = 0 ∨ wordO P L (p - 1 + n') ≠ wordO P L (p - 1)) := (show _ ∨ _ from .inr (by
                have : p - 1 = g := by have := Hg.out; omega
                rw [this, ← Hq.out, Hx.out, Hy.out]
                intro e
                cases e
                simp at hxy))
              go_wp2_with fail
              refine wp_region_free (fun _ => true) (fun w' => w'.cell? ⟨w.heap.size, 0, none⟩ = some (.slice ap P.length cp) ∧ w'.cell? ⟨w.heap.size, 1, none⟩ = some (.slice (some b) L.length cl)) (by kernel_rfl) ⟨c0, c1⟩ (fun hHeld => ?_)
              refine wpAnyG_take (i := 0) (v := ?_) rfl (by kernel_rfl) (fun _ _ _ h => h) (Or.inl ⟨by rfl, ?_⟩) hHeld ?_
              rotate_left
              · intro w hSw; obtain ⟨c0, c1⟩ := hSw; go_simp; (try (with_reducible rfl))
              simp only [Act.put, List.setIfInBounds_toArray]
              refine wpAnyG_take (i := 1) (v := ?_) rfl (by kernel_rfl) (fun _ _ _ h => h) (Or.inl ⟨by rfl, ?_⟩) hHeld ?_
              rotate_left
              · intro w hSw; obtain ⟨c0, c1⟩ := hSw; go_simp; (try (with_reducible rfl))
              try simp only [Act.put]
              refine wpAnyG_take (i := 2) (v := ?_) rfl (by kernel_rfl) (fun _ _ _ h => h) (Or.inl ⟨by rfl, ?_⟩) hHeld ?_
              rotate_left
              · intro w hSw; obtain ⟨c0, c1⟩ := hSw; go_simp; (try (with_reducible rfl))
              try simp only [Act.put]
              refine wpAnyG_take (i := 3) (v := ?_) rfl (by kernel_rfl) (fun _ _ _ h => h) (Or.inl ⟨by rfl, ?_⟩) hHeld ?_
              rotate_left
              · intro w hSw; obtain ⟨c0, c1⟩ := hSw; go_simp; (try (with_reducible rfl))
              try simp only [Act.put]
              refine wpAnyG_take (i := 4) (v := ?_) rfl (by kernel_rfl) (fun _ _ _ h => h) (Or.inl ⟨by kernel_rfl, ?_⟩) hHeld ?_
              rotate_left
              · intro w hSw; obtain ⟨c0, c1⟩ := hSw; go_simp; (try (with_reducible rfl))
              try simp only [Act.put]
              refine wpAnyG_take (i := 5) (v := ?_) rfl (by kernel_rfl) (fun _ _ _ h => h) (Or.inl ⟨by kernel_rfl, ?_⟩) hHeld ?_
              rotate_left
              · intro w hSw; obtain ⟨c0, c1⟩ := hSw; go_simp; (try go_bits); (try (with_reducible rfl))
              try simp only [Act.put]
              refine wpAnyG_take (i := 6) (v := ?_) rfl (by kernel_rfl) (fun _ _ _ h => h) (Or.inl ⟨by kernel_rfl, ?_⟩) hHeld ?_
              rotate_left
              · intro w hSw; obtain ⟨c0, c1⟩ := hSw; go_simp; (try go_bits); (try (with_reducible rfl))
              try simp only [Act.put]
              refine wpAnyG_take (i := 8) (v := ?_) rfl (by kernel_rfl) (fun _ _ _ h => h) (Or.inl ⟨by kernel_rfl, ?_⟩) hHeld ?_
              rotate_left
              · intro w hSw; obtain ⟨c0, c1⟩ := hSw; go_simp; (try (with_reducible rfl))
              try simp only [Act.put]
              refine wpAnyG_take (i := 9) (v := ?_) rfl (by kernel_rfl) (fun _ _ _ h => h) (Or.inl ⟨by kernel_rfl, ?_⟩) hHeld ?_
              rotate_left
              · intro w hSw; obtain ⟨c0, c1⟩ := hSw; go_simp; (try (with_reducible rfl))
              try simp only [Act.put]
              refine wpAnyG_take (i := 10) (v := ?_) rfl (by kernel_rfl) (fun _ _ _ h => h) (Or.inl ⟨by kernel_rfl, ?_⟩) hHeld ?_
              rotate_left
              · intro w hSw; obtain ⟨c0, c1⟩ := hSw; go_simp; (try go_bits); (try (with_reducible rfl))
              try simp only [Act.put]
              refine wpAnyG_take (i := 11) (v := ?_) rfl (by kernel_rfl) (fun _ _ _ h => h) (Or.inl ⟨by kernel_rfl, ?_⟩) hHeld ?_
              rotate_left
              · intro w hSw; obtain ⟨c0, c1⟩ := hSw; go_simp; (try (with_reducible rfl))
              try simp only [Act.put]
              refine wpAnyG_take (i := 12) (v := ?_) rfl (by kernel_rfl) (fun _ _ _ h => h) (Or.inl ⟨by kernel_rfl, ?_⟩) hHeld ?_
              rotate_left
              · intro w hSw; obtain ⟨c0, c1⟩ := hSw; go_simp; (try go_bits); (try (with_reducible rfl))
              try simp only [Act.put]
              refine wpAnyG_take (i := 13) (v := ?_) rfl (by kernel_rfl) (fun _ _ _ h => h) (Or.inl ⟨by kernel_rfl, ?_⟩) hHeld ?_
              rotate_left
              · intro w hSw; obtain ⟨c0, c1⟩ := hSw; go_simp; (try go_bits); (try (with_reducible rfl))
              try simp only [Act.put]
              refine wpAnyG_ready (rs := [7]) (by kernel_rfl) (by simp) ?_
              refine AllReadyG.cons rfl (fun K hK => ?_) AllReadyG.nil
              rw [if_pos (by kernel_rfl)]
              go_simp
              have hp := wletter_any (w := wr.drew) (ap := ap) (al := some b) (cp := cp) (cl := cl) (by omega) Hl0.out (HP.out.nob hcr.drew) (HL.out.nob hcr.drew) g (by omega) Hx.out
              (with_reducible refine hp.mono ?_)
              clear hp
              rintro e V1 ⟨rfl, hcV1⟩
              have HcV1 := Lib.hid ((hcr.drew).trans1 hcV1)
              have hHV1 := hSx.out _ HcV1.out
              refine hK.out _ _ (fun _ => hSx.out _ HcV1.out) ?_
              clear hK K hcV1
              try simp only [Act.put]
              refine wpAnyG_ready (rs := [14]) (by kernel_rfl) (by simp) ?_
              refine AllReadyG.cons rfl (fun K hK => ?_) AllReadyG.nil
              rw [if_pos (by kernel_rfl)]
              go_simp
              have hp := wletter_any (w := V1) (ap := ap) (al := some b) (cp := cp) (cl := cl) (by omega) Hl0.out (HP.out.nob HcV1.out) (HL.out.nob HcV1.out) q (by omega) Hy.out
              (with_reducible refine hp.mono ?_)
              clear hp
              rintro e V2 ⟨rfl, hcV2⟩
              have HcV2 := Lib.hid ((HcV1.out).trans1 hcV2)
              have hHV2 := hSx.out _ HcV2.out
              refine hK.out _ _ (fun _ => hSx.out _ HcV2.out) ?_
              clear hK K hcV2
              try simp only [Act.put]
              refine wpAnyG_take (i := 15) (v := ?_) rfl (by kernel_rfl) (fun _ _ _ h => h) (Or.inl ⟨by kernel_rfl, ?_⟩) hHV2 ?_
              rotate_left
              · intro w hSw; obtain ⟨c0, c1⟩ := hSw; go_simp; (try (with_reducible rfl))
              try simp only [Act.put]
              refine wpAnyG_take (i := 16) (v := ?_) rfl (by kernel_rfl) (fun _ _ _ h => h) (Or.inl ⟨by kernel_rfl, ?_⟩) hHV2 ?_
              rotate_left
              · intro w hSw; obtain ⟨c0, c1⟩ := hSw; go_simp; (try (with_reducible rfl))
              try simp only [Act.put]
              refine wpAnyG_done (by kernel_rfl) ?_ _
              go_simp
              go_wp2_with fail
              obtain ⟨W2, hW2⟩ : ∃ W2, W2 = V2 := ⟨_, rfl⟩
              rw [← hW2] at HcV2 ⊢
              have HcW2 := Lib.hid HcV2.out
              clear hW2 HcV2 hHeld hHV1 hHV2 HcV1 hSx hper hcr c0 c1 Hx Hy hgi hqi hg0 hq0 hq1 hg1 hxy HcW1 Hper0
              have hszW2 := HcW2.out.size
              obtain ⟨W3, hW3, hc3, hs3, hb3⟩ := box_zero W2
              have HbDW3 := Lib.hid hb3
              have HcW3 : Hid (Chg (At1 W2.heap.size) w2 W3) := (show Chg (At1 W2.heap.size) w2 W3 from (HcW2.out.trans1 hc3).any)
              have HcL : Hid (∀ V, Chg (At1 W2.heap.size) w2 V → Chg Nob w2 V) := fun V h => h.mono (fun i hi e => by have e : i = W2.heap.size := e; omega)
              have hlw : w.heap.size + 2 ≤ W2.heap.size := by omega
              obtain ⟨c0, c1, _⟩ := cell_two (hc3.at (HcW2.out.at Hb0.out (fun e => e)) (fun e => e))
              clear hc3 hb3
              rw [hW3] at c0 c1
              go_wp2_with fail
              rw [← hW3]
              clear hW3 c0 c1
              obtain ⟨c0, c1, _⟩ := cell_two (HcW3.out.at Hb0.out (fun e => by have e : w.heap.size = W2.heap.size := e; omega))
              go_loopw [11] (fun iv wr => ∃ i : Nat, iv = .int .i64 (i : Int) ∧ 0 ≤ i ∧ i ≤ p ∧ ∃ v, Hid (wr.heap[W2.heap.size]? = some (.cells #[v, .slice none 0 0] 24 (0, 0))) ∧ Hid (wr.ownsRow W3.heap.size 25 1 v i (uvs (wseg P L 0 i))) ∧ Chg (At1 W2.heap.size) W3 wr) (fun iv _ => p - (intOf iv).toNat)
              case atStart => exact ⟨0, rfl, Nat.le_refl _, Nat.zero_le _, _, HbDW3.out, (by unfold wseg; rw [List.range_zero]; exact ownsRow_zero _ _ _ _), Chg.refl _ _⟩
              case round =>
                obtain ⟨i, rfl, hil, hih, v, hbD, hrow, hcr⟩ := hrel
                clear c0 c1
                have hsh := ownsRow_shape hrow.out
                obtain ⟨ao, hsh⟩ := hsh
                obtain ⟨cc, hsh⟩ := hsh
                subst hsh
                have hleR := hcr.size
                have hvb : Hid (∀ b, (Value.slice ao i cc).ownBlock = some b → W3.heap.size ≤ b ∧ b ≠ W2.heap.size) := (show ∀ b, (Value.slice ao i cc).ownBlock = some b → W3.heap.size ≤ b ∧ b ≠ W2.heap.size from ownsRow_ne_type hrow.out hbD.out (by decide))
                obtain ⟨c0, c1, _⟩ := cell_two (hcr.at (HcW3.out.at Hb0.out (fun e => by have e : w.heap.size = W2.heap.size := e; omega)) (fun e => by have e : w.heap.size = W2.heap.size := e; omega))
                obtain ⟨d0, d1, _⟩ := cell_two hbD.out
                have hi0 : (0 : Int) ≤ (i : Int) := by omega
                have hi64 : (i : Int) ≤ 20000 := by omega
                by_cases hlt : i < p
                · obtain ⟨x, hx⟩ := wordO_some (P := P) Hl0.out i
                  have Hx := Lib.hid hx
                  have hki : (i : Int) < (p : Int) := by omega
                  have hnx : Hid (wseg P L 0 (i + 1) = wseg P L 0 i ++ [x]) := (show _ = _ from wseg_snoc (by rw [Nat.zero_add]; exact hx))
                  have hSx : Hid (∀ w', Chg (fun b => (Value.slice ao i cc).ownBlock = some b) wr w' → w'.cell? ⟨w.heap.size, 0, none⟩ = some (.slice ap P.length cp) ∧ w'.cell? ⟨w.heap.size, 1, none⟩ = some (.slice (some b) L.length cl) ∧ w'.cell? ⟨W2.heap.size, 0, none⟩ = some (.slice ao i cc)) := fun w' h => by
                    refine ⟨h.cell' c0 (fun e => by have := (hvb.out _ e).1; simp only at this; omega), h.cell' c1 (fun e => by have := (hvb.out _ e).1; simp only at this; omega), h.cell' d0 (fun e => (hvb.out _ e).2 rfl)⟩
                  have hcW : Chg Nob w2 wr.drew := (HcL.out wr (HcW3.out.trans1 hcr)).drew
                  clear hx
                  go_wp2_with fail
                  refine wp_region_free (fun j => j != 9) (fun w' => w'.cell? ⟨w.heap.size, 0, none⟩ = some (.slice ap P.length cp) ∧ w'.cell? ⟨w.heap.size, 1, none⟩ = some (.slice (some b) L.length cl) ∧ w'.cell? ⟨W2.heap.size, 0, none⟩ = some (.slice ao i cc)) (by kernel_rfl) ⟨c0, c1, d0⟩ (fun hHeld => ?_)
                  refine wpAnyG_take (i := 0) (v := ?_) rfl (by kernel_rfl) (fun _ _ _ h => h) (Or.inl ⟨by rfl, ?_⟩) hHeld ?_
                  rotate_left
                  · intro w hSw; obtain ⟨c0, c1, d0⟩ := hSw; go_simp; (try (with_reducible rfl))
                  simp only [Act.put, List.setIfInBounds_toArray]
                  refine wpAnyG_take (i := 1) (v := ?_) rfl (by kernel_rfl) (fun _ _ _ h => h) (Or.inl ⟨by rfl, ?_⟩) hHeld ?_
                  rotate_left
                  · intro w hSw; obtain ⟨c0, c1, d0⟩ := hSw; go_simp; (try (with_reducible rfl))
                  try simp only [Act.put]
                  refine wpAnyG_take (i := 2) (v := ?_) rfl (by kernel_rfl) (fun _ _ _ h => h) (Or.inl ⟨by rfl, ?_⟩) hHeld ?_
                  rotate_left
                  · intro w hSw; obtain ⟨c0, c1, d0⟩ := hSw; go_simp; (try (with_reducible rfl))
                  try simp only [Act.put]
                  refine wpAnyG_take (i := 3) (v := ?_) rfl (by kernel_rfl) (fun _ _ _ h => h) (Or.inl ⟨by rfl, ?_⟩) hHeld ?_
                  rotate_left
                  · intro w hSw; obtain ⟨c0, c1, d0⟩ := hSw; go_simp; (try (with_reducible rfl))
                  try simp only [Act.put]
                  refine wpAnyG_take (i := 4) (v := ?_) rfl (by kernel_rfl) (fun _ _ _ h => h) (Or.inl ⟨by kernel_rfl, ?_⟩) hHeld ?_
                  rotate_left
                  · intro w hSw; obtain ⟨c0, c1, d0⟩ := hSw; go_simp; (try go_bits); (try (with_reducible rfl))
                  try simp only [Act.put]
                  refine wpAnyG_ready (rs := [5]) (by kernel_rfl) (by simp) ?_
                  refine AllReadyG.cons rfl (fun K hK => ?_) AllReadyG.nil
                  rw [if_pos (by kernel_rfl)]
                  go_simp
                  have hp := wletter_any (w := wr.drew) (ap := ap) (al := some b) (cp := cp) (cl := cl) (by omega) Hl0.out (HP.out.nob hcW) (HL.out.nob hcW) i (by omega) Hx.out
                  (with_reducible refine hp.mono ?_)
                  clear hp
                  rintro e V1 ⟨rfl, hcV1⟩
                  have HcV1 := Lib.hid ((Chg.refl Nob wr).drew.trans1 hcV1)
                  have hHV1 := hSx.out _ HcV1.out.any
                  have hrowV := Lib.hid (ownsRow_chg (ownsRow_drew hrow.out) hcV1 (fun _ _ e => e))
                  have hleV : W3.heap.size ≤ V1.heap.size := Nat.le_trans hleR HcV1.out.size
                  refine hK.out _ _ (fun _ => hSx.out _ HcV1.out.any) ?_
                  clear hK K hcV1
                  try simp only [Act.put]
                  refine wpAnyG_ready (rs := [6]) (by kernel_rfl) (by simp) ?_
                  refine AllReadyG.cons rfl (fun K hK => ?_) AllReadyG.nil
                  rw [if_pos (by kernel_rfl)]
                  have hhn : i ≤ 20000 := by omega
                  have hhr := hrowV.out
                  have hle : W3.heap.size ≤ V1.heap.size := hleV
                  have hh2 := append_one25 (w := V1) (xs := wseg P L 0 i) x hhr hle hhn
                  obtain ⟨v', W', hh3⟩ := hh2
                  have hrun := hh3.1
                  have hrow' := hh3.2.1
                  have hgr := hh3.2.2
                  clear hh3 hhn hle hhr
                  have hrun : (Builtin.append_ #[22, 22] 22 #[Value.slice ao i cc, .slice (some ⟨V1.heap.size, 0, none⟩) 1 1]).run Try.prog ((V1.alloc (.cells #[.int .u64 x] 25))) = .ok v' W' := hrun
                  have hal : Chg (fun b => (Value.slice ao i cc : Value).ownBlock = some b) V1 ((V1.alloc (.cells #[.int .u64 x] 25))) := (Chg.refl _ _).alloc _
                  have hcW' : Chg (fun b => (Value.slice ao i cc : Value).ownBlock = some b) V1 W' := ((Chg.refl _ _).alloc _).grown hgr (fun k e _ => e)
                  have hH1 := hSx.out _ (HcV1.out.any.trans1 hal)
                  have hH2 := hSx.out W' (HcV1.out.any.trans1 hcW')
                  have Hrun := Lib.hid hrun
                  have HrowN := Lib.hid hrow'
                  have HcW' := Lib.hid (HcV1.out.any.trans1 hcW')
                  have hsh := ownsRow_shape hrow'
                  obtain ⟨ao', hsh⟩ := hsh
                  obtain ⟨cc', hsh⟩ := hsh
                  subst hsh
                  clear hrun hrow' hcW' hgr hal
                  go_simp
                  refine hK.out _ _ (fun _ => hH1) ?_
                  clear hK K
                  try simp only [Act.put]
                  refine wpAnyG_ready (rs := [7]) (by kernel_rfl) (by simp) ?_
                  refine AllReadyG.cons rfl (fun K hK => ?_) AllReadyG.nil
                  rw [if_pos (by kernel_rfl)]
                  refine wp_append_known (.tmp 89) (.tmp 94) 22 22 rfl _ _ rfl rfl _ _ Hrun.out ?_
                  refine hK.out _ _ (fun _ => hH2) ?_
                  clear hK K
                  try simp only [Act.put]
                  refine wpAnyG_take (i := 8) (v := ?_) rfl (by kernel_rfl) (fun _ _ _ h => h) (Or.inl ⟨by kernel_rfl, ?_⟩) hH2 ?_
                  rotate_left
                  · intro w hSw; obtain ⟨c0, c1, d0⟩ := hSw; go_simp; (try (with_reducible rfl))
                  try simp only [Act.put]
                  refine wpAnyG_ready (rs := [9]) (by kernel_rfl) (by simp) ?_
                  refine AllReadyG.cons rfl (fun K hK => ?_) AllReadyG.nil
                  rw [if_pos (by kernel_rfl)]
                  have hbD' := HcW'.out.at hbD.out (fun e => (hvb.out _ e).2 rfl)
                  have hct := cell_two hbD'
                  have d0 := hct.1
                  have d1 := hct.2.1
                  have f0 := hct.2.2.1
                  have f1 := hct.2.2.2
                  clear hct
                  have hset : Chg (At1 (W2.heap.size)) W' (W'.setCell ⟨W2.heap.size, 0, none⟩ (.slice ao' (i + 1) cc')) := (Chg.refl (At1 (W2.heap.size)) _).setCell (p := ⟨W2.heap.size, 0, none⟩) (fun _ => rfl) _
                  have HbDN := Lib.hid (block_two_set0 (u := .slice ao' (i + 1) cc') hbD')
                  have HrowF := Lib.hid (ownsRow_chg HrowN.out hset (fun k hk e => (ownsRow_ne_type HrowN.out hbD' (by decide) k hk).2 e))
                  have HcN : Hid (Chg (At1 (W2.heap.size)) W3 (W'.setCell ⟨W2.heap.size, 0, none⟩ (.slice ao' (i + 1) cc'))) := (show Chg (At1 (W2.heap.size)) W3 _ from ((hcr).trans (S := At1 (W2.heap.size)) HcW'.out (fun i hi e => absurd (hvb.out _ e).1 (by omega))).trans1 hset)
                  clear hset hbD'
                  go_simp
                  refine hK.out _ _ (fun h => absurd h (by decide)) ?_
                  clear hK K d0 d1 f0 f1
                  try simp only [Act.put]
                  refine wpAnyG_done (by kernel_rfl) ?_ _
                  go_simp
                  go_wp2_with fail
                  go_roundw
                  case rel => exact ⟨i + 1, by go_num, by omega, hlt, _, HbDN.out, (by rw [hnx.out]; exact HrowF.out), HcN.out⟩
                  case measure => simp [intOf]; omega
                · obtain rfl : p = i := by omega
                  obtain ⟨aoP, haoP⟩ : ∃ aoP, aoP = ao := ⟨_, rfl⟩
                  obtain ⟨ccP, hccP⟩ : ∃ ccP, ccP = cc := ⟨_, rfl⟩
                  rw [← haoP, ← hccP] at hbD hrow d0
                  clear haoP hccP hvb
                  have HbDW := Lib.hid hbD.out
                  have hpp : ¬ (p : Int) < (p : Int) := by omega
                  go_wp2_with fail
                  obtain ⟨W4, hW4⟩ : ∃ W4, W4 = wr := ⟨_, rfl⟩
                  rw [← hW4] at HbDW hrow hcr hleR ⊢
                  have HbDW4 := Lib.hid HbDW.out
                  have HrowP0 := Lib.hid hrow.out
                  have HcW4 := Lib.hid (HcW3.out.trans1 hcr)
                  clear hW4 HbDW hbD hrow hcr hleR c0 c1 d0 d1 hpp hlt hil hih hi0 hi64
                  obtain ⟨c0, c1, _⟩ := cell_two (HcW4.out.at Hb0.out (fun e => by have e : w.heap.size = W2.heap.size := e; omega))
                  have hW34 := HcW4.out.size
                  go_loopw [12] (fun iv wr => ∃ i : Nat, iv = .int .i64 (i : Int) ∧ p ≤ i ∧ i ≤ p + n' ∧ ∃ v, Hid (wr.heap[W2.heap.size]? = some (.cells #[.slice aoP p ccP, v] 24 (0, 0))) ∧ Hid (wr.ownsRow W4.heap.size 25 1 v (i - p) (uvs (wseg P L p (i - p)))) ∧ Chg (At1 W2.heap.size) W4 wr) (fun iv _ => p + n' - (intOf iv).toNat)
                  case atStart => exact ⟨p, rfl, Nat.le_refl _, by omega, _, HbDW4.out, (by rw [Nat.sub_self]; unfold wseg; rw [List.range_zero]; exact ownsRow_zero _ _ _ _), Chg.refl _ _⟩
                  case round =>
                    obtain ⟨i, rfl, hil, hih, v, hbD, hrow, hcr⟩ := hrel
                    clear c0 c1
                    have hsh := ownsRow_shape hrow.out
                    obtain ⟨ao, hsh⟩ := hsh
                    obtain ⟨cc, hsh⟩ := hsh
                    subst hsh
                    have hleR := hcr.size
                    have hvb : Hid (∀ b, (Value.slice ao (i - p) cc).ownBlock = some b → W4.heap.size ≤ b ∧ b ≠ W2.heap.size) := (show ∀ b, (Value.slice ao (i - p) cc).ownBlock = some b → W4.heap.size ≤ b ∧ b ≠ W2.heap.size from ownsRow_ne_type hrow.out hbD.out (by decide))
                    obtain ⟨c0, c1, _⟩ := cell_two (hcr.at (HcW4.out.at Hb0.out (fun e => by have e : w.heap.size = W2.heap.size := e; omega)) (fun e => by have e : w.heap.size = W2.heap.size := e; omega))
                    obtain ⟨d0, d1, _⟩ := cell_two hbD.out
                    have hi0 : (0 : Int) ≤ (i : Int) := by omega
                    have hi64 : (i : Int) ≤ 20000 := by omega
                    by_cases hlt : i < p + n'
                    · obtain ⟨x, hx⟩ := wordO_some (P := P) Hl0.out i
                      have Hx := Lib.hid hx
                      have hki : (i : Int) < (p : Int) + (n' : Int) := by omega
                      have hnx : Hid (wseg P L p (i + 1 - p) = wseg P L p (i - p) ++ [x]) := (show _ = _ from (by rw [show i + 1 - p = i - p + 1 by omega]; exact wseg_snoc (by rw [show p + (i - p) = i by omega]; exact hx)))
                      have hSx : Hid (∀ w', Chg (fun b => (Value.slice ao (i - p) cc).ownBlock = some b) wr w' → w'.cell? ⟨w.heap.size, 0, none⟩ = some (.slice ap P.length cp) ∧ w'.cell? ⟨w.heap.size, 1, none⟩ = some (.slice (some b) L.length cl) ∧ w'.cell? ⟨W2.heap.size, 1, none⟩ = some (.slice ao (i - p) cc)) := fun w' h => by
                        refine ⟨h.cell' c0 (fun e => by have := (hvb.out _ e).1; simp only at this; omega), h.cell' c1 (fun e => by have := (hvb.out _ e).1; simp only at this; omega), h.cell' d1 (fun e => (hvb.out _ e).2 rfl)⟩
                      have hcW : Chg Nob w2 wr.drew := (HcL.out wr (HcW4.out.trans1 hcr)).drew
                      clear hx
                      go_wp2_with fail
                      refine wp_region_free (fun j => j != 9) (fun w' => w'.cell? ⟨w.heap.size, 0, none⟩ = some (.slice ap P.length cp) ∧ w'.cell? ⟨w.heap.size, 1, none⟩ = some (.slice (some b) L.length cl) ∧ w'.cell? ⟨W2.heap.size, 1, none⟩ = some (.slice ao (i - p) cc)) (by kernel_rfl) ⟨c0, c1, d1⟩ (fun hHeld => ?_)
                      refine wpAnyG_take (i := 0) (v := ?_) rfl (by kernel_rfl) (fun _ _ _ h => h) (Or.inl ⟨by rfl, ?_⟩) hHeld ?_
                      rotate_left
                      · intro w hSw; obtain ⟨c0, c1, d1⟩ := hSw; go_simp; (try (with_reducible rfl))
                      simp only [Act.put, List.setIfInBounds_toArray]
                      refine wpAnyG_take (i := 1) (v := ?_) rfl (by kernel_rfl) (fun _ _ _ h => h) (Or.inl ⟨by rfl, ?_⟩) hHeld ?_
                      rotate_left
                      · intro w hSw; obtain ⟨c0, c1, d1⟩ := hSw; go_simp; (try (with_reducible rfl))
                      try simp only [Act.put]
                      refine wpAnyG_take (i := 2) (v := ?_) rfl (by kernel_rfl) (fun _ _ _ h => h) (Or.inl ⟨by rfl, ?_⟩) hHeld ?_
                      rotate_left
                      · intro w hSw; obtain ⟨c0, c1, d1⟩ := hSw; go_simp; (try (with_reducible rfl))
                      try simp only [Act.put]
                      refine wpAnyG_take (i := 3) (v := ?_) rfl (by kernel_rfl) (fun _ _ _ h => h) (Or.inl ⟨by rfl, ?_⟩) hHeld ?_
                      rotate_left
                      · intro w hSw; obtain ⟨c0, c1, d1⟩ := hSw; go_simp; (try (with_reducible rfl))
                      try simp only [Act.put]
                      refine wpAnyG_take (i := 4) (v := ?_) rfl (by kernel_rfl) (fun _ _ _ h => h) (Or.inl ⟨by kernel_rfl, ?_⟩) hHeld ?_
                      rotate_left
                      · intro w hSw; obtain ⟨c0, c1, d1⟩ := hSw; go_simp; (try go_bits); (try (with_reducible rfl))
                      try simp only [Act.put]
                      refine wpAnyG_ready (rs := [5]) (by kernel_rfl) (by simp) ?_
                      refine AllReadyG.cons rfl (fun K hK => ?_) AllReadyG.nil
                      rw [if_pos (by kernel_rfl)]
                      go_simp
                      have hp := wletter_any (w := wr.drew) (ap := ap) (al := some b) (cp := cp) (cl := cl) (by omega) Hl0.out (HP.out.nob hcW) (HL.out.nob hcW) i (by omega) Hx.out
                      (with_reducible refine hp.mono ?_)
                      clear hp
                      rintro e V1 ⟨rfl, hcV1⟩
                      have HcV1 := Lib.hid ((Chg.refl Nob wr).drew.trans1 hcV1)
                      have hHV1 := hSx.out _ HcV1.out.any
                      have hrowV := Lib.hid (ownsRow_chg (ownsRow_drew hrow.out) hcV1 (fun _ _ e => e))
                      have hleV : W4.heap.size ≤ V1.heap.size := Nat.le_trans hleR HcV1.out.size
                      refine hK.out _ _ (fun _ => hSx.out _ HcV1.out.any) ?_
                      clear hK K hcV1
                      try simp only [Act.put]
                      refine wpAnyG_ready (rs := [6]) (by kernel_rfl) (by simp) ?_
                      refine AllReadyG.cons rfl (fun K hK => ?_) AllReadyG.nil
                      rw [if_pos (by kernel_rfl)]
                      have hhn : (i - p) ≤ 20000 := by omega
                      have hhr := hrowV.out
                      have hle : W4.heap.size ≤ V1.heap.size := hleV
                      have hh2 := append_one25 (w := V1) (xs := wseg P L p (i - p)) x hhr hle hhn
                      obtain ⟨v', W', hh3⟩ := hh2
                      have hrun := hh3.1
                      have hrow' := hh3.2.1
                      have hgr := hh3.2.2
                      clear hh3 hhn hle hhr
                      have hrun : (Builtin.append_ #[22, 22] 22 #[Value.slice ao (i - p) cc, .slice (some ⟨V1.heap.size, 0, none⟩) 1 1]).run Try.prog ((V1.alloc (.cells #[.int .u64 x] 25))) = .ok v' W' := hrun
                      have hal : Chg (fun b => (Value.slice ao (i - p) cc : Value).ownBlock = some b) V1 ((V1.alloc (.cells #[.int .u64 x] 25))) := (Chg.refl _ _).alloc _
                      have hcW' : Chg (fun b => (Value.slice ao (i - p) cc : Value).ownBlock = some b) V1 W' := ((Chg.refl _ _).alloc _).grown hgr (fun k e _ => e)
                      have hH1 := hSx.out _ (HcV1.out.any.trans1 hal)
                      have hH2 := hSx.out W' (HcV1.out.any.trans1 hcW')
                      have Hrun := Lib.hid hrun
                      have HrowN := Lib.hid hrow'
                      have HcW' := Lib.hid (HcV1.out.any.trans1 hcW')
                      have hsh := ownsRow_shape hrow'
                      obtain ⟨ao', hsh⟩ := hsh
                      obtain ⟨cc', hsh⟩ := hsh
                      subst hsh
                      clear hrun hrow' hcW' hgr hal
                      go_simp
                      refine hK.out _ _ (fun _ => hH1) ?_
                      clear hK K
                      try simp only [Act.put]
                      refine wpAnyG_ready (rs := [7]) (by kernel_rfl) (by simp) ?_
                      refine AllReadyG.cons rfl (fun K hK => ?_) AllReadyG.nil
                      rw [if_pos (by kernel_rfl)]
                      refine wp_append_known (.tmp 106) (.tmp 111) 22 22 rfl _ _ rfl rfl _ _ Hrun.out ?_
                      refine hK.out _ _ (fun _ => hH2) ?_
                      clear hK K
                      try simp only [Act.put]
                      refine wpAnyG_take (i := 8) (v := ?_) rfl (by kernel_rfl) (fun _ _ _ h => h) (Or.inl ⟨by kernel_rfl, ?_⟩) hH2 ?_
                      rotate_left
                      · intro w hSw; obtain ⟨c0, c1, d1⟩ := hSw; go_simp; (try (with_reducible rfl))
                      try simp only [Act.put]
                      refine wpAnyG_ready (rs := [9]) (by kernel_rfl) (by simp) ?_
                      refine AllReadyG.cons rfl (fun K hK => ?_) AllReadyG.nil
                      rw [if_pos (by kernel_rfl)]
                      have hbD' := HcW'.out.at hbD.out (fun e => (hvb.out _ e).2 rfl)
                      have hct := cell_two hbD'
                      have d0 := hct.1
                      have d1 := hct.2.1
                      have f0 := hct.2.2.1
                      have f1 := hct.2.2.2
                      clear hct
                      have hset : Chg (At1 (W2.heap.size)) W' (W'.setCell ⟨W2.heap.size, 1, none⟩ (.slice ao' ((i - p) + 1) cc')) := (Chg.refl (At1 (W2.heap.size)) _).setCell (p := ⟨W2.heap.size, 1, none⟩) (fun _ => rfl) _
                      have HbDN := Lib.hid (block_two_set1 (u := .slice ao' ((i - p) + 1) cc') hbD')
                      have HrowF := Lib.hid (ownsRow_chg HrowN.out hset (fun k hk e => (ownsRow_ne_type HrowN.out hbD' (by decide) k hk).2 e))
                      have HcN : Hid (Chg (At1 (W2.heap.size)) W4 (W'.setCell ⟨W2.heap.size, 1, none⟩ (.slice ao' ((i - p) + 1) cc'))) := (show Chg (At1 (W2.heap.size)) W4 _ from ((hcr).trans (S := At1 (W2.heap.size)) HcW'.out (fun i hi e => absurd (hvb.out _ e).1 (by omega))).trans1 hset)
                      clear hset hbD'
                      go_simp
                      refine hK.out _ _ (fun h => absurd h (by decide)) ?_
                      clear hK K d0 d1 f0 f1
                      try simp only [Act.put]
                      refine wpAnyG_done (by kernel_rfl) ?_ _
                      go_simp
                      go_wp2_with fail
                      go_roundw
                      case rel => exact ⟨i + 1, by go_num, by omega, hlt, _, HbDN.out, (by rw [hnx.out, show i + 1 - p = i - p + 1 by omega]; exact HrowF.out), HcN.out⟩
                      case measure => simp [intOf]; omega
                    · obtain rfl : i = p + n' := by omega
                      have HrowP := Lib.hid (ownsRow_chg HrowP0.out hcr (fun k hk e => (ownsRow_ne_type HrowP0.out HbDW4.out (by decide) k hk).2 e))
                      have hlP := wseg_length P L 0 p
                      have hlQ := wseg_length P L p n'
                      have hlQ2 : p + n' - p = n' := by omega
                      rw [hlQ2] at hbD hrow d1
                      obtain ⟨e3, g3, h3, r3, q3⟩ := URow.own (M := wseg P L 0 p) HrowP.out hlP.symm
                      obtain ⟨e4, g4, h4, r4, q4⟩ := URow.own (M := wseg P L p n') hrow.out hlQ.symm
                      rw [hlP] at h3
                      rw [hlQ] at h4
                      cases h3
                      cases h4
                      have hb1 := hcr.at (HcW4.out.at Hb1.out (fun e => by have e : w.heap.size + 1 = W2.heap.size := e; omega)) (fun e => by have e : w.heap.size + 1 = W2.heap.size := e; omega)
                      have hF := chg_two wr (w.heap.size + 1) (.slice aoP p ccP) (.slice ao n' cc)
                      have HbF := Lib.hid (block_two_set1 (u := .slice ao n' cc) (block_two_set0 (u := .slice aoP p ccP) hb1))
                      have HcF : Hid (Chg Nob w ((wr.setCell ⟨w.heap.size + 1, 0, none⟩ (.slice aoP p ccP)).setCell ⟨w.heap.size + 1, 1, none⟩ (.slice ao n' cc))) := (show Chg Nob w _ from
                        (Hcw2.out.trans1 (HcL.out wr (HcW4.out.trans1 hcr))).trans hF (fun i hi e => by have e : i = w.heap.size + 1 := e; omega))
                      have HvF : Hid (LasV ((wr.setCell ⟨w.heap.size + 1, 0, none⟩ (.slice aoP p ccP)).setCell ⟨w.heap.size + 1, 1, none⟩ (.slice ao n' cc)) (wseg P L 0 p) (wseg P L p n') (.agg #[.slice aoP p ccP, .slice ao n' cc])) := (show LasV _ _ _ _ from
                        ⟨aoP, ccP, ao, cc, by rw [hlP, hlQ], r3.chg hF (fun a e h => by have h : a.block = w.heap.size + 1 := h; have := q3 a e; omega), r4.chg hF (fun a e h => by have h : a.block = w.heap.size + 1 := h; have := q4 a e; omega)⟩)
                      have Hcan : Hid (IsCanon P L (wseg P L 0 p) (wseg P L p n')) := (show IsCanon _ _ _ _ from
                        canon_letters (List.length_pos_iff.1 Hl0.out) hn1 Hleast.out HperF.out Hstop.out hlP (fun i hi => by rw [wseg_at Hl0.out hi, Nat.zero_add]) (hlQ) (fun i hi => wseg_at Hl0.out hi))
                      clear hlQ2
                      obtain ⟨p0, p1, f0, f1⟩ := cell_two hb1
                      have hki : ¬ ((p + n' : Nat) : Int) < (p : Int) + (n' : Int) := by omega
                      clear hb1 hF r3 r4 q3 q4 hlP hlQ hbD hrow hvb hcr hlt
                      go_wp2
                      exact bodyPost_ret (results16 rfl rfl HbF.out) rfl ⟨HcF.out, _, _, _, by rw [Hn0.out], HvF.out, fun _ => Hcan.out, fun h => absurd Hck.out h⟩
          · have hpz : p = 0 := by omega
            have Hstop : Hid (p = 0 ∨ wordO P L (p - 1 + n') ≠ wordO P L (p - 1)) := (show _ ∨ _ from .inl hpz)
            have hpd : decide ((0 : Int) < (p : Int)) = false := by rw [decide_eq_false_iff_not]; omega
            have hpi : ¬ (0 : Int) < (p : Int) := by omega
            clear hpz
            go_wp2_with fail
            go_quiet (fail)
            have hcW2 : Chg Nob w2 (wr.drewN nq) := hcr.drewN nq
            generalize wr.drewN nq = W2 at hcW2 ⊢
            have HcW2 := Lib.hid hcW2
            go_wp2_with fail
            clear hcW2 hSx hper hcr c0 c1 HcW1 Hper0 hpd hpi hp0
            have hszW2 := HcW2.out.size
            obtain ⟨W3, hW3, hc3, hs3, hb3⟩ := box_zero W2
            have HbDW3 := Lib.hid hb3
            have HcW3 : Hid (Chg (At1 W2.heap.size) w2 W3) := (show Chg (At1 W2.heap.size) w2 W3 from (HcW2.out.trans1 hc3).any)
            have HcL : Hid (∀ V, Chg (At1 W2.heap.size) w2 V → Chg Nob w2 V) := fun V h => h.mono (fun i hi e => by have e : i = W2.heap.size := e; omega)
            have hlw : w.heap.size + 2 ≤ W2.heap.size := by omega
            obtain ⟨c0, c1, _⟩ := cell_two (hc3.at (HcW2.out.at Hb0.out (fun e => e)) (fun e => e))
            clear hc3 hb3
            rw [hW3] at c0 c1
            go_wp2_with fail
            rw [← hW3]
            clear hW3 c0 c1
            obtain ⟨c0, c1, _⟩ := cell_two (HcW3.out.at Hb0.out (fun e => by have e : w.heap.size = W2.heap.size := e; omega))
            go_loopw [11] (fun iv wr => ∃ i : Nat, iv = .int .i64 (i : Int) ∧ 0 ≤ i ∧ i ≤ p ∧ ∃ v, Hid (wr.heap[W2.heap.size]? = some (.cells #[v, .slice none 0 0] 24 (0, 0))) ∧ Hid (wr.ownsRow W3.heap.size 25 1 v i (uvs (wseg P L 0 i))) ∧ Chg (At1 W2.heap.size) W3 wr) (fun iv _ => p - (intOf iv).toNat)
            case atStart => exact ⟨0, rfl, Nat.le_refl _, Nat.zero_le _, _, HbDW3.out, (by unfold wseg; rw [List.range_zero]; exact ownsRow_zero _ _ _ _), Chg.refl _ _⟩
            case round =>
              obtain ⟨i, rfl, hil, hih, v, hbD, hrow, hcr⟩ := hrel
              clear c0 c1
              have hsh := ownsRow_shape hrow.out
              obtain ⟨ao, hsh⟩ := hsh
              obtain ⟨cc, hsh⟩ := hsh
              subst hsh
              have hleR := hcr.size
              have hvb : Hid (∀ b, (Value.slice ao i cc).ownBlock = some b → W3.heap.size ≤ b ∧ b ≠ W2.heap.size) := (show ∀ b, (Value.slice ao i cc).ownBlock = some b → W3.heap.size ≤ b ∧ b ≠ W2.heap.size from ownsRow_ne_type hrow.out hbD.out (by decide))
              obtain ⟨c0, c1, _⟩ := cell_two (hcr.at (HcW3.out.at Hb0.out (fun e => by have e : w.heap.size = W2.heap.size := e; omega)) (fun e => by have e : w.heap.size = W2.heap.size := e; omega))
              obtain ⟨d0, d1, _⟩ := cell_two hbD.out
              have hi0 : (0 : Int) ≤ (i : Int) := by omega
              have hi64 : (i : Int) ≤ 20000 := by omega
              by_cases hlt : i < p
              · obtain ⟨x, hx⟩ := wordO_some (P := P) Hl0.out i
                have Hx := Lib.hid hx
                have hki : (i : Int) < (p : Int) := by omega
                have hnx : Hid (wseg P L 0 (i + 1) = wseg P L 0 i ++ [x]) := (show _ = _ from wseg_snoc (by rw [Nat.zero_add]; exact hx))
                have hSx : Hid (∀ w', Chg (fun b => (Value.slice ao i cc).ownBlock = some b) wr w' → w'.cell? ⟨w.heap.size, 0, none⟩ = some (.slice ap P.length cp) ∧ w'.cell? ⟨w.heap.size, 1, none⟩ = some (.slice (some b) L.length cl) ∧ w'.cell? ⟨W2.heap.size, 0, none⟩ = some (.slice ao i cc)) := fun w' h => by
                  refine ⟨h.cell' c0 (fun e => by have := (hvb.out _ e).1; simp only at this; omega), h.cell' c1 (fun e => by have := (hvb.out _ e).1; simp only at this; omega), h.cell' d0 (fun e => (hvb.out _ e).2 rfl)⟩
                have hcW : Chg Nob w2 wr.drew := (HcL.out wr (HcW3.out.trans1 hcr)).drew
                clear hx
                go_wp2_with fail
                refine wp_region_free (fun j => j != 9) (fun w' => w'.cell? ⟨w.heap.size, 0, none⟩ = some (.slice ap P.length cp) ∧ w'.cell? ⟨w.heap.size, 1, none⟩ = some (.slice (some b) L.length cl) ∧ w'.cell? ⟨W2.heap.size, 0, none⟩ = some (.slice ao i cc)) (by kernel_rfl) ⟨c0, c1, d0⟩ (fun hHeld => ?_)
                refine wpAnyG_take (i := 0) (v := ?_) rfl (by kernel_rfl) (fun _ _ _ h => h) (Or.inl ⟨by rfl, ?_⟩) hHeld ?_
                rotate_left
                · intro w hSw; obtain ⟨c0, c1, d0⟩ := hSw; go_simp; (try (with_reducible rfl))
                simp only [Act.put, List.setIfInBounds_toArray]
                refine wpAnyG_take (i := 1) (v := ?_) rfl (by kernel_rfl) (fun _ _ _ h => h) (Or.inl ⟨by rfl, ?_⟩) hHeld ?_
                rotate_left
                · intro w hSw; obtain ⟨c0, c1, d0⟩ := hSw; go_simp; (try (with_reducible rfl))
                try simp only [Act.put]
                refine wpAnyG_take (i := 2) (v := ?_) rfl (by kernel_rfl) (fun _ _ _ h => h) (Or.inl ⟨by rfl, ?_⟩) hHeld ?_
                rotate_left
                · intro w hSw; obtain ⟨c0, c1, d0⟩ := hSw; go_simp; (try (with_reducible rfl))
                try simp only [Act.put]
                refine wpAnyG_take (i := 3) (v := ?_) rfl (by kernel_rfl) (fun _ _ _ h => h) (Or.inl ⟨by rfl, ?_⟩) hHeld ?_
                rotate_left
                · intro w hSw; obtain ⟨c0, c1, d0⟩ := hSw; go_simp; (try (with_reducible rfl))
                try simp only [Act.put]
                refine wpAnyG_take (i := 4) (v := ?_) rfl (by kernel_rfl) (fun _ _ _ h => h) (Or.inl ⟨by kernel_rfl, ?_⟩) hHeld ?_
                rotate_left
                · intro w hSw; obtain ⟨c0, c1, d0⟩ := hSw; go_simp; (try go_bits); (try (with_reducible rfl))
                try simp only [Act.put]
                refine wpAnyG_ready (rs := [5]) (by kernel_rfl) (by simp) ?_
                refine AllReadyG.cons rfl (fun K hK => ?_) AllReadyG.nil
                rw [if_pos (by kernel_rfl)]
                go_simp
                have hp := wletter_any (w := wr.drew) (ap := ap) (al := some b) (cp := cp) (cl := cl) (by omega) Hl0.out (HP.out.nob hcW) (HL.out.nob hcW) i (by omega) Hx.out
                (with_reducible refine hp.mono ?_)
                clear hp
                rintro e V1 ⟨rfl, hcV1⟩
                have HcV1 := Lib.hid ((Chg.refl Nob wr).drew.trans1 hcV1)
                have hHV1 := hSx.out _ HcV1.out.any
                have hrowV := Lib.hid (ownsRow_chg (ownsRow_drew hrow.out) hcV1 (fun _ _ e => e))
                have hleV : W3.heap.size ≤ V1.heap.size := Nat.le_trans hleR HcV1.out.size
                refine hK.out _ _ (fun _ => hSx.out _ HcV1.out.any) ?_
                clear hK K hcV1
                try simp only [Act.put]
                refine wpAnyG_ready (rs := [6]) (by kernel_rfl) (by simp) ?_
                refine AllReadyG.cons rfl (fun K hK => ?_) AllReadyG.nil
                rw [if_pos (by kernel_rfl)]
                have hhn : i ≤ 20000 := by omega
                have hhr := hrowV.out
                have hle : W3.heap.size ≤ V1.heap.size := hleV
                have hh2 := append_one25 (w := V1) (xs := wseg P L 0 i) x hhr hle hhn
                obtain ⟨v', W', hh3⟩ := hh2
                have hrun := hh3.1
                have hrow' := hh3.2.1
                have hgr := hh3.2.2
                clear hh3 hhn hle hhr
                have hrun : (Builtin.append_ #[22, 22] 22 #[Value.slice ao i cc, .slice (some ⟨V1.heap.size, 0, none⟩) 1 1]).run Try.prog ((V1.alloc (.cells #[.int .u64 x] 25))) = .ok v' W' := hrun
                have hal : Chg (fun b => (Value.slice ao i cc : Value).ownBlock = some b) V1 ((V1.alloc (.cells #[.int .u64 x] 25))) := (Chg.refl _ _).alloc _
                have hcW' : Chg (fun b => (Value.slice ao i cc : Value).ownBlock = some b) V1 W' := ((Chg.refl _ _).alloc _).grown hgr (fun k e _ => e)
                have hH1 := hSx.out _ (HcV1.out.any.trans1 hal)
                have hH2 := hSx.out W' (HcV1.out.any.trans1 hcW')
                have Hrun := Lib.hid hrun
                have HrowN := Lib.hid hrow'
                have HcW' := Lib.hid (HcV1.out.any.trans1 hcW')
                have hsh := ownsRow_shape hrow'
                obtain ⟨ao', hsh⟩ := hsh
                obtain ⟨cc', hsh⟩ := hsh
                subst hsh
                clear hrun hrow' hcW' hgr hal
                go_simp
                refine hK.out _ _ (fun _ => hH1) ?_
                clear hK K
                try simp only [Act.put]
                refine wpAnyG_ready (rs := [7]) (by kernel_rfl) (by simp) ?_
                refine AllReadyG.cons rfl (fun K hK => ?_) AllReadyG.nil
                rw [if_pos (by kernel_rfl)]
                refine wp_append_known (.tmp 89) (.tmp 94) 22 22 rfl _ _ rfl rfl _ _ Hrun.out ?_
                refine hK.out _ _ (fun _ => hH2) ?_
                clear hK K
                try simp only [Act.put]
                refine wpAnyG_take (i := 8) (v := ?_) rfl (by kernel_rfl) (fun _ _ _ h => h) (Or.inl ⟨by kernel_rfl, ?_⟩) hH2 ?_
                rotate_left
                · intro w hSw; obtain ⟨c0, c1, d0⟩ := hSw; go_simp; (try (with_reducible rfl))
                try simp only [Act.put]
                refine wpAnyG_ready (rs := [9]) (by kernel_rfl) (by simp) ?_
                refine AllReadyG.cons rfl (fun K hK => ?_) AllReadyG.nil
                rw [if_pos (by kernel_rfl)]
                have hbD' := HcW'.out.at hbD.out (fun e => (hvb.out _ e).2 rfl)
                have hct := cell_two hbD'
                have d0 := hct.1
                have d1 := hct.2.1
                have f0 := hct.2.2.1
                have f1 := hct.2.2.2
                clear hct
                have hset : Chg (At1 (W2.heap.size)) W' (W'.setCell ⟨W2.heap.size, 0, none⟩ (.slice ao' (i + 1) cc')) := (Chg.refl (At1 (W2.heap.size)) _).setCell (p := ⟨W2.heap.size, 0, none⟩) (fun _ => rfl) _
                have HbDN := Lib.hid (block_two_set0 (u := .slice ao' (i + 1) cc') hbD')
                have HrowF := Lib.hid (ownsRow_chg HrowN.out hset (fun k hk e => (ownsRow_ne_type HrowN.out hbD' (by decide) k hk).2 e))
                have HcN : Hid (Chg (At1 (W2.heap.size)) W3 (W'.setCell ⟨W2.heap.size, 0, none⟩ (.slice ao' (i + 1) cc'))) := (show Chg (At1 (W2.heap.size)) W3 _ from ((hcr).trans (S := At1 (W2.heap.size)) HcW'.out (fun i hi e => absurd (hvb.out _ e).1 (by omega))).trans1 hset)
                clear hset hbD'
                go_simp
                refine hK.out _ _ (fun h => absurd h (by decide)) ?_
                clear hK K d0 d1 f0 f1
                try simp only [Act.put]
                refine wpAnyG_done (by kernel_rfl) ?_ _
                go_simp
                go_wp2_with fail
                go_roundw
                case rel => exact ⟨i + 1, by go_num, by omega, hlt, _, HbDN.out, (by rw [hnx.out]; exact HrowF.out), HcN.out⟩
                case measure => simp [intOf]; omega
              · obtain rfl : p = i := by omega
                obtain ⟨aoP, haoP⟩ : ∃ aoP, aoP = ao := ⟨_, rfl⟩
                obtain ⟨ccP, hccP⟩ : ∃ ccP, ccP = cc := ⟨_, rfl⟩
                rw [← haoP, ← hccP] at hbD hrow d0
                clear haoP hccP hvb
                have HbDW := Lib.hid hbD.out
                have hpp : ¬ (p : Int) < (p : Int) := by omega
                go_wp2_with fail
                obtain ⟨W4, hW4⟩ : ∃ W4, W4 = wr := ⟨_, rfl⟩
                rw [← hW4] at HbDW hrow hcr hleR ⊢
                have HbDW4 := Lib.hid HbDW.out
                have HrowP0 := Lib.hid hrow.out
                have HcW4 := Lib.hid (HcW3.out.trans1 hcr)
                clear hW4 HbDW hbD hrow hcr hleR c0 c1 d0 d1 hpp hlt hil hih hi0 hi64
                obtain ⟨c0, c1, _⟩ := cell_two (HcW4.out.at Hb0.out (fun e => by have e : w.heap.size = W2.heap.size := e; omega))
                have hW34 := HcW4.out.size
                go_loopw [12] (fun iv wr => ∃ i : Nat, iv = .int .i64 (i : Int) ∧ p ≤ i ∧ i ≤ p + n' ∧ ∃ v, Hid (wr.heap[W2.heap.size]? = some (.cells #[.slice aoP p ccP, v] 24 (0, 0))) ∧ Hid (wr.ownsRow W4.heap.size 25 1 v (i - p) (uvs (wseg P L p (i - p)))) ∧ Chg (At1 W2.heap.size) W4 wr) (fun iv _ => p + n' - (intOf iv).toNat)
                case atStart => exact ⟨p, rfl, Nat.le_refl _, by omega, _, HbDW4.out, (by rw [Nat.sub_self]; unfold wseg; rw [List.range_zero]; exact ownsRow_zero _ _ _ _), Chg.refl _ _⟩
                case round =>
                  obtain ⟨i, rfl, hil, hih, v, hbD, hrow, hcr⟩ := hrel
                  clear c0 c1
                  have hsh := ownsRow_shape hrow.out
                  obtain ⟨ao, hsh⟩ := hsh
                  obtain ⟨cc, hsh⟩ := hsh
                  subst hsh
                  have hleR := hcr.size
                  have hvb : Hid (∀ b, (Value.slice ao (i - p) cc).ownBlock = some b → W4.heap.size ≤ b ∧ b ≠ W2.heap.size) := (show ∀ b, (Value.slice ao (i - p) cc).ownBlock = some b → W4.heap.size ≤ b ∧ b ≠ W2.heap.size from ownsRow_ne_type hrow.out hbD.out (by decide))
                  obtain ⟨c0, c1, _⟩ := cell_two (hcr.at (HcW4.out.at Hb0.out (fun e => by have e : w.heap.size = W2.heap.size := e; omega)) (fun e => by have e : w.heap.size = W2.heap.size := e; omega))
                  obtain ⟨d0, d1, _⟩ := cell_two hbD.out
                  have hi0 : (0 : Int) ≤ (i : Int) := by omega
                  have hi64 : (i : Int) ≤ 20000 := by omega
                  by_cases hlt : i < p + n'
                  · obtain ⟨x, hx⟩ := wordO_some (P := P) Hl0.out i
                    have Hx := Lib.hid hx
                    have hki : (i : Int) < (p : Int) + (n' : Int) := by omega
                    have hnx : Hid (wseg P L p (i + 1 - p) = wseg P L p (i - p) ++ [x]) := (show _ = _ from (by rw [show i + 1 - p = i - p + 1 by omega]; exact wseg_snoc (by rw [show p + (i - p) = i by omega]; exact hx)))
                    have hSx : Hid (∀ w', Chg (fun b => (Value.slice ao (i - p) cc).ownBlock = some b) wr w' → w'.cell? ⟨w.heap.size, 0, none⟩ = some (.slice ap P.length cp) ∧ w'.cell? ⟨w.heap.size, 1, none⟩ = some (.slice (some b) L.length cl) ∧ w'.cell? ⟨W2.heap.size, 1, none⟩ = some (.slice ao (i - p) cc)) := fun w' h => by
                      refine ⟨h.cell' c0 (fun e => by have := (hvb.out _ e).1; simp only at this; omega), h.cell' c1 (fun e => by have := (hvb.out _ e).1; simp only at this; omega), h.cell' d1 (fun e => (hvb.out _ e).2 rfl)⟩
                    have hcW : Chg Nob w2 wr.drew := (HcL.out wr (HcW4.out.trans1 hcr)).drew
                    clear hx
                    go_wp2_with fail
                    refine wp_region_free (fun j => j != 9) (fun w' => w'.cell? ⟨w.heap.size, 0, none⟩ = some (.slice ap P.length cp) ∧ w'.cell? ⟨w.heap.size, 1, none⟩ = some (.slice (some b) L.length cl) ∧ w'.cell? ⟨W2.heap.size, 1, none⟩ = some (.slice ao (i - p) cc)) (by kernel_rfl) ⟨c0, c1, d1⟩ (fun hHeld => ?_)
                    refine wpAnyG_take (i := 0) (v := ?_) rfl (by kernel_rfl) (fun _ _ _ h => h) (Or.inl ⟨by rfl, ?_⟩) hHeld ?_
                    rotate_left
                    · intro w hSw; obtain ⟨c0, c1, d1⟩ := hSw; go_simp; (try (with_reducible rfl))
                    simp only [Act.put, List.setIfInBounds_toArray]
                    refine wpAnyG_take (i := 1) (v := ?_) rfl (by kernel_rfl) (fun _ _ _ h => h) (Or.inl ⟨by rfl, ?_⟩) hHeld ?_
                    rotate_left
                    · intro w hSw; obtain ⟨c0, c1, d1⟩ := hSw; go_simp; (try (with_reducible rfl))
                    try simp only [Act.put]
                    refine wpAnyG_take (i := 2) (v := ?_) rfl (by kernel_rfl) (fun _ _ _ h => h) (Or.inl ⟨by rfl, ?_⟩) hHeld ?_
                    rotate_left
                    · intro w hSw; obtain ⟨c0, c1, d1⟩ := hSw; go_simp; (try (with_reducible rfl))
                    try simp only [Act.put]
                    refine wpAnyG_take (i := 3) (v := ?_) rfl (by kernel_rfl) (fun _ _ _ h => h) (Or.inl ⟨by rfl, ?_⟩) hHeld ?_
                    rotate_left
                    · intro w hSw; obtain ⟨c0, c1, d1⟩ := hSw; go_simp; (try (with_reducible rfl))
                    try simp only [Act.put]
                    refine wpAnyG_take (i := 4) (v := ?_) rfl (by kernel_rfl) (fun _ _ _ h => h) (Or.inl ⟨by kernel_rfl, ?_⟩) hHeld ?_
                    rotate_left
                    · intro w hSw; obtain ⟨c0, c1, d1⟩ := hSw; go_simp; (try go_bits); (try (with_reducible rfl))
                    try simp only [Act.put]
                    refine wpAnyG_ready (rs := [5]) (by kernel_rfl) (by simp) ?_
                    refine AllReadyG.cons rfl (fun K hK => ?_) AllReadyG.nil
                    rw [if_pos (by kernel_rfl)]
                    go_simp
                    have hp := wletter_any (w := wr.drew) (ap := ap) (al := some b) (cp := cp) (cl := cl) (by omega) Hl0.out (HP.out.nob hcW) (HL.out.nob hcW) i (by omega) Hx.out
                    (with_reducible refine hp.mono ?_)
                    clear hp
                    rintro e V1 ⟨rfl, hcV1⟩
                    have HcV1 := Lib.hid ((Chg.refl Nob wr).drew.trans1 hcV1)
                    have hHV1 := hSx.out _ HcV1.out.any
                    have hrowV := Lib.hid (ownsRow_chg (ownsRow_drew hrow.out) hcV1 (fun _ _ e => e))
                    have hleV : W4.heap.size ≤ V1.heap.size := Nat.le_trans hleR HcV1.out.size
                    refine hK.out _ _ (fun _ => hSx.out _ HcV1.out.any) ?_
                    clear hK K hcV1
                    try simp only [Act.put]
                    refine wpAnyG_ready (rs := [6]) (by kernel_rfl) (by simp) ?_
                    refine AllReadyG.cons rfl (fun K hK => ?_) AllReadyG.nil
                    rw [if_pos (by kernel_rfl)]
                    have hhn : (i - p) ≤ 20000 := by omega
                    have hhr := hrowV.out
                    have hle : W4.heap.size ≤ V1.heap.size := hleV
                    have hh2 := append_one25 (w := V1) (xs := wseg P L p (i - p)) x hhr hle hhn
                    obtain ⟨v', W', hh3⟩ := hh2
                    have hrun := hh3.1
                    have hrow' := hh3.2.1
                    have hgr := hh3.2.2
                    clear hh3 hhn hle hhr
                    have hrun : (Builtin.append_ #[22, 22] 22 #[Value.slice ao (i - p) cc, .slice (some ⟨V1.heap.size, 0, none⟩) 1 1]).run Try.prog ((V1.alloc (.cells #[.int .u64 x] 25))) = .ok v' W' := hrun
                    have hal : Chg (fun b => (Value.slice ao (i - p) cc : Value).ownBlock = some b) V1 ((V1.alloc (.cells #[.int .u64 x] 25))) := (Chg.refl _ _).alloc _
                    have hcW' : Chg (fun b => (Value.slice ao (i - p) cc : Value).ownBlock = some b) V1 W' := ((Chg.refl _ _).alloc _).grown hgr (fun k e _ => e)
                    have hH1 := hSx.out _ (HcV1.out.any.trans1 hal)
                    have hH2 := hSx.out W' (HcV1.out.any.trans1 hcW')
                    have Hrun := Lib.hid hrun
                    have HrowN := Lib.hid hrow'
                    have HcW' := Lib.hid (HcV1.out.any.trans1 hcW')
                    have hsh := ownsRow_shape hrow'
                    obtain ⟨ao', hsh⟩ := hsh
                    obtain ⟨cc', hsh⟩ := hsh
                    subst hsh
                    clear hrun hrow' hcW' hgr hal
                    go_simp
                    refine hK.out _ _ (fun _ => hH1) ?_
                    clear hK K
                    try simp only [Act.put]
                    refine wpAnyG_ready (rs := [7]) (by kernel_rfl) (by simp) ?_
                    refine AllReadyG.cons rfl (fun K hK => ?_) AllReadyG.nil
                    rw [if_pos (by kernel_rfl)]
                    refine wp_append_known (.tmp 106) (.tmp 111) 22 22 rfl _ _ rfl rfl _ _ Hrun.out ?_
                    refine hK.out _ _ (fun _ => hH2) ?_
                    clear hK K
                    try simp only [Act.put]
                    refine wpAnyG_take (i := 8) (v := ?_) rfl (by kernel_rfl) (fun _ _ _ h => h) (Or.inl ⟨by kernel_rfl, ?_⟩) hH2 ?_
                    rotate_left
                    · intro w hSw; obtain ⟨c0, c1, d1⟩ := hSw; go_simp; (try (with_reducible rfl))
                    try simp only [Act.put]
                    refine wpAnyG_ready (rs := [9]) (by kernel_rfl) (by simp) ?_
                    refine AllReadyG.cons rfl (fun K hK => ?_) AllReadyG.nil
                    rw [if_pos (by kernel_rfl)]
                    have hbD' := HcW'.out.at hbD.out (fun e => (hvb.out _ e).2 rfl)
                    have hct := cell_two hbD'
                    have d0 := hct.1
                    have d1 := hct.2.1
                    have f0 := hct.2.2.1
                    have f1 := hct.2.2.2
                    clear hct
                    have hset : Chg (At1 (W2.heap.size)) W' (W'.setCell ⟨W2.heap.size, 1, none⟩ (.slice ao' ((i - p) + 1) cc')) := (Chg.refl (At1 (W2.heap.size)) _).setCell (p := ⟨W2.heap.size, 1, none⟩) (fun _ => rfl) _
                    have HbDN := Lib.hid (block_two_set1 (u := .slice ao' ((i - p) + 1) cc') hbD')
                    have HrowF := Lib.hid (ownsRow_chg HrowN.out hset (fun k hk e => (ownsRow_ne_type HrowN.out hbD' (by decide) k hk).2 e))
                    have HcN : Hid (Chg (At1 (W2.heap.size)) W4 (W'.setCell ⟨W2.heap.size, 1, none⟩ (.slice ao' ((i - p) + 1) cc'))) := (show Chg (At1 (W2.heap.size)) W4 _ from ((hcr).trans (S := At1 (W2.heap.size)) HcW'.out (fun i hi e => absurd (hvb.out _ e).1 (by omega))).trans1 hset)
                    clear hset hbD'
                    go_simp
                    refine hK.out _ _ (fun h => absurd h (by decide)) ?_
                    clear hK K d0 d1 f0 f1
                    try simp only [Act.put]
                    refine wpAnyG_done (by kernel_rfl) ?_ _
                    go_simp
                    go_wp2_with fail
                    go_roundw
                    case rel => exact ⟨i + 1, by go_num, by omega, hlt, _, HbDN.out, (by rw [hnx.out, show i + 1 - p = i - p + 1 by omega]; exact HrowF.out), HcN.out⟩
                    case measure => simp [intOf]; omega
                  · obtain rfl : i = p + n' := by omega
                    have HrowP := Lib.hid (ownsRow_chg HrowP0.out hcr (fun k hk e => (ownsRow_ne_type HrowP0.out HbDW4.out (by decide) k hk).2 e))
                    have hlP := wseg_length P L 0 p
                    have hlQ := wseg_length P L p n'
                    have hlQ2 : p + n' - p = n' := by omega
                    rw [hlQ2] at hbD hrow d1
                    obtain ⟨e3, g3, h3, r3, q3⟩ := URow.own (M := wseg P L 0 p) HrowP.out hlP.symm
                    obtain ⟨e4, g4, h4, r4, q4⟩ := URow.own (M := wseg P L p n') hrow.out hlQ.symm
                    rw [hlP] at h3
                    rw [hlQ] at h4
                    cases h3
                    cases h4
                    have hb1 := hcr.at (HcW4.out.at Hb1.out (fun e => by have e : w.heap.size + 1 = W2.heap.size := e; omega)) (fun e => by have e : w.heap.size + 1 = W2.heap.size := e; omega)
                    have hF := chg_two wr (w.heap.size + 1) (.slice aoP p ccP) (.slice ao n' cc)
                    have HbF := Lib.hid (block_two_set1 (u := .slice ao n' cc) (block_two_set0 (u := .slice aoP p ccP) hb1))
                    have HcF : Hid (Chg Nob w ((wr.setCell ⟨w.heap.size + 1, 0, none⟩ (.slice aoP p ccP)).setCell ⟨w.heap.size + 1, 1, none⟩ (.slice ao n' cc))) := (show Chg Nob w _ from
                      (Hcw2.out.trans1 (HcL.out wr (HcW4.out.trans1 hcr))).trans hF (fun i hi e => by have e : i = w.heap.size + 1 := e; omega))
                    have HvF : Hid (LasV ((wr.setCell ⟨w.heap.size + 1, 0, none⟩ (.slice aoP p ccP)).setCell ⟨w.heap.size + 1, 1, none⟩ (.slice ao n' cc)) (wseg P L 0 p) (wseg P L p n') (.agg #[.slice aoP p ccP, .slice ao n' cc])) := (show LasV _ _ _ _ from
                      ⟨aoP, ccP, ao, cc, by rw [hlP, hlQ], r3.chg hF (fun a e h => by have h : a.block = w.heap.size + 1 := h; have := q3 a e; omega), r4.chg hF (fun a e h => by have h : a.block = w.heap.size + 1 := h; have := q4 a e; omega)⟩)
                    have Hcan : Hid (IsCanon P L (wseg P L 0 p) (wseg P L p n')) := (show IsCanon _ _ _ _ from
                      canon_letters (List.length_pos_iff.1 Hl0.out) hn1 Hleast.out HperF.out Hstop.out hlP (fun i hi => by rw [wseg_at Hl0.out hi, Nat.zero_add]) (hlQ) (fun i hi => wseg_at Hl0.out hi))
                    clear hlQ2
                    obtain ⟨p0, p1, f0, f1⟩ := cell_two hb1
                    have hki : ¬ ((p + n' : Nat) : Int) < (p : Int) + (n' : Int) := by omega
                    clear hb1 hF r3 r4 q3 q4 hlP hlQ hbD hrow hvb hcr hlt
                    go_wp2
                    exact bodyPost_ret (results16 rfl rfl HbF.out) rfl ⟨HcF.out, _, _, _, by rw [Hn0.out], HvF.out, fun _ => Hcan.out, fun h => absurd Hck.out h⟩
end
end Go.Proofs.Ytkgfdgfhpdhhaaa
