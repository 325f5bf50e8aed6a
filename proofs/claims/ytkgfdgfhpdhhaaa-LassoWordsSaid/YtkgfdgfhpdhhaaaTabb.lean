/- What a table's helpers make: two rows put together; the least and the greatest fixed row. Conditions: the rows lie in the world. -/
import Derived.Test.YtkgfdgfhpdhhaaaTab
namespace Go.Proofs.Ytkgfdgfhpdhhaaa
open Go.ChangeShapes Go.WideShapes Go.RowKit

section
variable {tb ga gb : Nat} {nv : Value} {ap al : Option Addr} {np cp nl cl n : Nat} {w : World} {A B : List Bool}
set_option maxRecDepth 100000 in
set_option maxHeartbeats 4000000 in
theorem both_any (hA : BBlk w ga A) (hB : BBlk w gb B) (hla : A.length = n) (hlb : B.length = n) (hn : n ≤ 10000) (k : Nat) (hent : ∀ args w, (callFunc k args).run Try.prog w = .ok (.enter k args) w) (s : Bool → Bool → Bool)
    (hs : ∀ x y W, Calls Try.prog k #[.bool x, .bool y] W fun e W' => e = .returned (.bool (s x y)) ∧ Chg Nob W W') :
    Calls Try.prog 125 #[.slice (some ⟨ga, 0, none⟩) n n, .slice (some ⟨gb, 0, none⟩) n n, .func (.func k) #[] #[]] w fun e w' => Chg Nob w w' ∧ ∃ g, w.heap.size ≤ g ∧ e = .returned (.slice (some ⟨g, 0, none⟩) n n) ∧ BBlk w' g (List.zipWith s A B) := by
  have HA := Lib.hid hA
  have HBr := Lib.hid hB
  have Hla := Lib.hid hla
  have Hlb := Lib.hid hlb
  have Hs := Lib.hid hs
  have hmk := make116 n hn
  have hni : (n : Int) ≤ 10000 := by omega
  have hga := hA.lt
  have hgb := hB.lt
  clear hA hB hla hlb hs
  go_enter Try.func125, Try.ntmps125
  go_wp2_with fail
  clear hmk
  have hW : Chg Nob w (w.alloc (.cells (bcells (List.replicate n false)) 4)) := (Chg.refl _ _).alloc _
  have hb : BBlk (w.alloc (.cells (bcells (List.replicate n false)) 4)) w.heap.size (List.replicate n false) := heap_alloc_new _ _
  have HW := Lib.hid hW
  have Hb := Lib.hid hb
  clear hW hb
  generalize (w.alloc (.cells (bcells (List.replicate n false)) 4)) = W0 at *
  go_loopw [8, 14] (fun _ iv wr => ∃ i : Nat, iv = .int .i64 (i : Int) ∧ i ≤ n ∧ Chg (At1 w.heap.size) W0 wr ∧ ∃ L, Hid (BBlk wr w.heap.size L ∧ L.length = n ∧ ∀ j, j < i → L[j]? = (List.zipWith s A B)[j]?)) (fun _ iv _ => n - (intOf iv).toNat)
  case atStart => exact ⟨0, rfl, Nat.zero_le _, Chg.refl _ _, _, Hb.out, List.length_replicate, fun j h => absurd h (Nat.not_lt_zero j)⟩
  case round =>
    obtain ⟨i, rfl, hi, hcr, L, hL⟩ := hrel
    by_cases hlt : i < n
    · have hii : (i : Int) < (n : Int) := by omega
      have hi0 : (0 : Int) ≤ (i : Int) := by omega
      have hcw : Chg Nob w wr := HW.out.trans hcr (fun k hk e => by have e : k = w.heap.size := e; omega)
      obtain ⟨x, hx⟩ : ∃ x, A[i]? = some x := ⟨_, List.getElem?_eq_getElem (by rw [Hla.out]; exact hlt)⟩
      obtain ⟨y, hy⟩ : ∃ y, B[i]? = some y := ⟨_, List.getElem?_eq_getElem (by rw [Hlb.out]; exact hlt)⟩
      have hz2 : (List.zipWith s A B)[i]? = some (s x y) := by rw [List.getElem?_zipWith, hx, hy]
      obtain ⟨hB, hLl, hLs⟩ := hL.out
      have HB := Lib.hid hB
      have HLs : Hid (∀ j, j < i + 1 → (L.set i (s x y))[j]? = (List.zipWith s A B)[j]?) := (show ∀ j, j < i + 1 → (L.set i (s x y))[j]? = (List.zipWith s A B)[j]? from fun j hj => by
        by_cases e : j = i
        · subst e; rw [List.getElem?_set_self (by omega), hz2]
        · rw [List.getElem?_set_ne (Ne.symm e)]; exact hLs j (by omega))
      have HLl : Hid ((L.set i (s x y)).length = n) := (show (L.set i (s x y)).length = n by rw [List.length_set]; exact hLl)
      obtain ⟨z, hz⟩ : ∃ z, L[i]? = some z := ⟨_, List.getElem?_eq_getElem (by omega)⟩
      have Hz := Lib.hid hz
      have hSx : Hid (∀ w', Chg Nob wr w' → w'.cell? ⟨ga, i, none⟩ = some (.bool x) ∧ w'.cell? ⟨gb, i, none⟩ = some (.bool y)) := fun w' h => ⟨(HA.out.chg (hcw.trans1 h) (fun e => e)).cell hx, (HBr.out.chg (hcw.trans1 h) (fun e => e)).cell hy⟩
      obtain ⟨d0, e0⟩ := hSx.out wr (Chg.refl _ _)
      clear hB hLl hLs hL hz hz2 hx hy hcw
      go_wp2_with fail
      refine wp_region_free (fun j => j != 13) (fun w' => w'.cell? ⟨ga, i, none⟩ = some (.bool x) ∧ w'.cell? ⟨gb, i, none⟩ = some (.bool y)) (by kernel_rfl) ⟨d0, e0⟩ (fun hHeld => ?_)
      refine wpAnyG_take (i := 0) (v := ?_) rfl (by kernel_rfl) (fun _ _ _ h => h) (Or.inl ⟨by rfl, ?_⟩) hHeld ?_
      rotate_left
      · intro w hSw; obtain ⟨d0, e0⟩ := hSw; go_simp; (try (with_reducible rfl))
      simp only [Act.put, List.setIfInBounds_toArray]
      refine wpAnyG_take (i := 1) (v := ?_) rfl (by kernel_rfl) (fun _ _ _ h => h) (Or.inl ⟨by rfl, ?_⟩) hHeld ?_
      rotate_left
      · intro w hSw; obtain ⟨d0, e0⟩ := hSw; go_simp; (try (with_reducible rfl))
      try simp only [Act.put]
      refine wpAnyG_take (i := 2) (v := ?_) rfl (by kernel_rfl) (fun _ _ _ h => h) (Or.inl ⟨by rfl, ?_⟩) hHeld ?_
      rotate_left
      · intro w hSw; obtain ⟨d0, e0⟩ := hSw; go_simp; (try (with_reducible rfl))
      try simp only [Act.put]
      refine wpAnyG_take (i := 3) (v := ?_) rfl (by kernel_rfl) (fun _ _ _ h => h) (Or.inl ⟨by rfl, ?_⟩) hHeld ?_
      rotate_left
      · intro w hSw; obtain ⟨d0, e0⟩ := hSw; go_simp; (try (with_reducible rfl))
      try simp only [Act.put]
      refine wpAnyG_take (i := 4) (v := ?_) rfl (by kernel_rfl) (fun _ _ _ h => h) (Or.inl ⟨by kernel_rfl, ?_⟩) hHeld ?_
      rotate_left
      · intro w hSw; obtain ⟨d0, e0⟩ := hSw; go_simp; (try (with_reducible rfl))
      try simp only [Act.put]
      refine wpAnyG_take (i := 5) (v := ?_) rfl (by kernel_rfl) (fun _ _ _ h => h) (Or.inl ⟨by kernel_rfl, ?_⟩) hHeld ?_
      rotate_left
      · intro w hSw; obtain ⟨d0, e0⟩ := hSw; go_simp; (try (with_reducible rfl))
      try simp only [Act.put]
      refine wpAnyG_take (i := 6) (v := ?_) rfl (by kernel_rfl) (fun _ _ _ h => h) (Or.inl ⟨by kernel_rfl, ?_⟩) hHeld ?_
      rotate_left
      · intro w hSw; obtain ⟨d0, e0⟩ := hSw; go_simp; (try (with_reducible rfl))
      try simp only [Act.put]
      refine wpAnyG_take (i := 7) (v := ?_) rfl (by kernel_rfl) (fun _ _ _ h => h) (Or.inl ⟨by kernel_rfl, ?_⟩) hHeld ?_
      rotate_left
      · intro w hSw; obtain ⟨d0, e0⟩ := hSw; go_simp; (try (with_reducible rfl))
      try simp only [Act.put]
      refine wpAnyG_take (i := 8) (v := ?_) rfl (by kernel_rfl) (fun _ _ _ h => h) (Or.inl ⟨by kernel_rfl, ?_⟩) hHeld ?_
      rotate_left
      · intro w hSw; obtain ⟨d0, e0⟩ := hSw; go_simp; (try (with_reducible rfl))
      try simp only [Act.put]
      refine wpAnyG_take (i := 9) (v := ?_) rfl (by kernel_rfl) (fun _ _ _ h => h) (Or.inl ⟨by kernel_rfl, ?_⟩) hHeld ?_
      rotate_left
      · intro w hSw; obtain ⟨d0, e0⟩ := hSw; go_simp; (try (with_reducible rfl))
      try simp only [Act.put]
      refine wpAnyG_take (i := 10) (v := ?_) rfl (by kernel_rfl) (fun _ _ _ h => h) (Or.inl ⟨by kernel_rfl, ?_⟩) hHeld ?_
      rotate_left
      · intro w hSw; obtain ⟨d0, e0⟩ := hSw; go_simp; (try (with_reducible rfl))
      try simp only [Act.put]
      refine wpAnyG_ready (rs := [11]) (by kernel_rfl) (by simp) ?_
      refine AllReadyG.cons rfl (fun K hK => ?_) AllReadyG.nil
      rw [if_pos (by kernel_rfl)]
      go_simp
      (with_reducible refine (Hs.out x y _).mono ?_)
      rintro e W' ⟨rfl, hcW'⟩
      have hcW' : Chg Nob wr W' := ((Chg.refl Nob wr).drew).trans1 hcW'
      have HcW' := Lib.hid hcW'
      have hH1 := hSx.out W' hcW'
      clear hcW'
      refine hK.out _ _ (fun _ => hSx.out _ HcW'.out) ?_
      clear hK K
      try simp only [Act.put]
      refine wpAnyG_take (i := 12) (v := ?_) rfl (by kernel_rfl) (fun _ _ _ h => h) (Or.inl ⟨by kernel_rfl, ?_⟩) hH1 ?_
      rotate_left
      · intro w hSw; obtain ⟨d0, e0⟩ := hSw; go_simp; (try (with_reducible rfl))
      try simp only [Act.put]
      refine wpAnyG_ready (rs := [13]) (by kernel_rfl) (by simp) ?_
      refine AllReadyG.cons rfl (fun K hK => ?_) AllReadyG.nil
      rw [if_pos (by kernel_rfl)]
      have hB' := HB.out.chg HcW'.out (fun e => e)
      have c0 := hB'.cell Hz.out
      have f0 := hB'.free i
      have HB2 := Lib.hid (hB'.set i (s x y))
      have hset : Chg (At1 w.heap.size) W0 (W'.setCell ⟨w.heap.size, i, none⟩ (.bool (s x y))) := (hcr.trans1 HcW'.out.any).setCell (p := ⟨w.heap.size, i, none⟩) (fun _ => rfl) _
      have Hset := Lib.hid hset
      clear hB' hset
      go_simp
      refine hK.out _ _ (fun h => absurd h (by decide)) ?_
      clear hK K c0 f0
      try simp only [Act.put]
      refine wpAnyG_done (by kernel_rfl) ?_ _
      go_simp
      go_wp2_with fail
      go_roundw
      case rel => exact ⟨i + 1, by go_num, by omega, Hset.out, _, HB2.out, HLl.out, HLs.out⟩
      case measure => simp [intOf]; omega
    · obtain rfl : i = n := by omega
      obtain ⟨hB, hLl, hLs⟩ := hL.out
      have hLe : L = List.zipWith s A B := by
        refine List.ext_getElem? (fun j => ?_)
        rcases Nat.lt_or_ge j i with h | h
        · exact hLs j h
        · rw [List.getElem?_eq_none_iff.2 (by omega), List.getElem?_eq_none_iff.2 (by rw [List.length_zipWith, Hla.out, Hlb.out]; omega)]
      have HB : Hid (BBlk wr w.heap.size (List.zipWith s A B)) := (show BBlk wr w.heap.size _ from hLe ▸ hB)
      have Hc : Hid (Chg Nob w wr) := (show Chg Nob w wr from HW.out.trans hcr (fun k hk e => by have e : k = w.heap.size := e; omega))
      clear hB hLl hLs hL hLe hcr
      go_wp2
      go_ret
      exact ⟨Hc.out, _, Nat.le_refl _, rfl, HB.out⟩
/-- The place behind one. -/
def nextN (np n i : Nat) : Nat := if i + 1 = n then np else i + 1
def updL (np n : Nat) (A B L : List Bool) (i : Nat) : List Bool := L.set i (A.getD i false || (B.getD i false && L.getD (nextN np n i) false))
/-- From the place below m down to the first one. -/
def sweepTo (np n : Nat) (A B : List Bool) : Nat → List Bool → List Bool
  | 0, L => L
  | m + 1, L => sweepTo np n A B m (updL np n A B L m)
def fixL (np n : Nat) (A B : List Bool) (b : Bool) : List Bool := sweepTo np n A B n (sweepTo np n A B n (List.replicate n b))
def sweeps (np n : Nat) (A B : List Bool) : Nat → List Bool → List Bool
  | 0, L => L
  | r + 1, L => sweeps np n A B r (sweepTo np n A B n L)
theorem fix1_any (w : World) (g : Nat) (x : Bool) (i : Int) (hb : w.cell? ⟨g, 0, none⟩ = some (.bool x)) : Calls Try.prog 148 #[.int .i64 i, .pointer (some ⟨g, 0, none⟩)] w fun e w' => e = .returned (.bool x) ∧ Chg Nob w w' := by
  go_enter Try.func148, Try.ntmps148
  go_wp2
  go_ret
  exact ⟨rfl, Chg.refl _ _⟩
set_option maxRecDepth 100000 in
set_option maxHeartbeats 8000000 in
theorem fix_any (hT : TabIs w tb nv ap np cp al nl cl n) (hA : BBlk w ga A) (hB : BBlk w gb B) (hla : A.length = n) (hlb : B.length = n) (hn : n ≤ 10000) (hnp : np < n) (b : Bool) :
    Calls Try.prog 124 #[.pointer (some ⟨tb, 0, none⟩), .slice (some ⟨ga, 0, none⟩) n n, .slice (some ⟨gb, 0, none⟩) n n, .bool b] w fun e w' => Chg Nob w w' ∧ ∃ g, w.heap.size ≤ g ∧ e = .returned (.slice (some ⟨g, 0, none⟩) n n) ∧ BBlk w' g (fixL np n A B b) := by
  have hmf : ∀ (fn : Fn) (first cap : Array Value) (w : World), (Instr.makeFunc fn first cap).run Try.prog w = .ok (.func fn first cap) w := fun _ _ _ _ => rfl
  obtain ⟨X, hX, hcX, hbX⟩ : ∃ X, X = w.alloc (.cells #[.bool b] 4) ∧ Chg Nob w X ∧ X.heap[w.heap.size]? = some (.cells #[.bool b] 4 (0, 0)) := ⟨_, rfl, (Chg.refl _ _).alloc _, heap_alloc_new _ _⟩
  have hp := each_any (w := X) (hcX.at hT (fun e => e)) hn 148 #[.pointer (some ⟨w.heap.size, 0, none⟩)] (enters_of Try.func148 (by kernel_rfl) rfl) (fun _ => b) (fun i hi W hW => fix1_any W w.heap.size b i (cell_row (hW.at hbX (fun e => e)) 0 rfl))
  have HT := Lib.hid hT
  have HA := Lib.hid hA
  have HBr := Lib.hid hB
  have Hla := Lib.hid hla
  have Hlb := Lib.hid hlb
  have HcX := Lib.hid hcX
  have hni : (n : Int) ≤ 10000 := by omega
  have hsX : w.heap.size ≤ X.heap.size := hcX.size
  have hga := hA.lt
  have hgb := hB.lt
  have htb : tb < w.heap.size := (Array.getElem?_eq_some_iff.1 hT).1
  clear hA hB hla hlb hT hcX hbX
  go_enter Try.func124, Try.ntmps124
  go_wp2_with fail
  rw [← hX]
  clear hX
  (with_reducible refine hp.mono ?_)
  clear hp
  rintro e w2 ⟨hc2, g, hg, rfl, hbg⟩
  have hbg0 : BBlk w2 g (List.replicate n b) := by
    rw [show List.replicate n b = (List.range n).map (fun _ => b) by rw [List.map_const', List.length_range]]
    exact hbg
  have Hbg := Lib.hid hbg0
  have Hc2 := Lib.hid (HcX.out.trans1 hc2)
  clear hbg hbg0 hc2
  go_wp2_with fail
  go_loopw [10, 14] (fun _ rv wr => ∃ r : Nat, rv = .int .i64 (r : Int) ∧ r ≤ 2 ∧ Chg (At1 g) w2 wr ∧ ∃ L, Hid (BBlk wr g L ∧ L.length = n ∧ sweeps np n A B (2 - r) L = fixL np n A B b)) (fun _ rv _ => 2 - (intOf rv).toNat)
  case atStart => exact ⟨0, rfl, by omega, Chg.refl _ _, _, Hbg.out, List.length_replicate, rfl⟩
  case round =>
    obtain ⟨r, rfl, hr, hcr, L, hL⟩ := hrel
    have hcw : Chg Nob w wr := Hc2.out.trans hcr (fun k hk e => by have e : k = g := e; omega)
    obtain ⟨t0, t1, t2, t3⟩ := TabIs.cells (hcw.at HT.out (fun e => e))
    by_cases hlt : r < 2
    · have hri : (r : Int) < 2 := by omega
      obtain ⟨hB1, hL1, hS1⟩ := hL.out
      have HL0 : Hid (BBlk wr g L ∧ L.length = n ∧ sweepTo np n A B n L = sweepTo np n A B n L) := ⟨hB1, hL1, rfl⟩
      have Hnext : Hid (∀ L', L' = sweepTo np n A B n L → sweeps np n A B (2 - (r + 1)) L' = fixL np n A B b) := (show ∀ L', L' = sweepTo np n A B n L → sweeps np n A B (2 - (r + 1)) L' = fixL np n A B b from fun L' e => by
        rw [e, ← hS1, show 2 - r = 2 - (r + 1) + 1 by omega]; rfl)
      clear hB1 hL1 hS1 hL
      go_wp2_with fail
      clear t0 t1 t2 t3
      go_loopw [10] (fun kv wr' => ∃ (m : Nat) (iv : Int), kv = .int .i64 iv ∧ iv = (m : Int) - 1 ∧ m ≤ n ∧ Chg (At1 g) w2 wr' ∧ ∃ L', Hid (BBlk wr' g L' ∧ L'.length = n ∧ sweepTo np n A B m L' = sweepTo np n A B n L)) (fun kv _ => (intOf kv + 1).toNat)
      case atStart => exact ⟨n, _, rfl, rfl, Nat.le_refl _, hcr, _, HL0.out.1, HL0.out.2.1, rfl⟩
      case round =>
        clear hcr hcw
        obtain ⟨m, iv, rfl, hiv, hm, hcr, L', hL'⟩ := hrel
        have hcw : Chg Nob w wr := Hc2.out.trans hcr (fun k hk e => by have e : k = g := e; omega)
        obtain ⟨t0, t1, t2, t3⟩ := TabIs.cells (hcw.at HT.out (fun e => e))
        obtain ⟨hB1, hL1, hS1⟩ := hL'.out
        by_cases hm0 : m = 0
        · subst hm0
          have hivn : ¬ (0 : Int) ≤ iv := by omega
          have HN : Hid (BBlk wr g L' ∧ L'.length = n ∧ sweeps np n A B (2 - (r + 1)) L' = fixL np n A B b) := ⟨hB1, hL1, Hnext.out L' hS1⟩
          clear hB1 hL1 hS1 hL' hiv
          go_wp2_with fail
          go_roundw
          case rel => exact ⟨r + 1, by go_num, by omega, hcr, L', HN⟩
          case measure => simp [intOf]; omega
        · obtain ⟨i, rfl⟩ : ∃ i, m = i + 1 := ⟨m - 1, by omega⟩
          obtain rfl : iv = (i : Int) := by omega
          have hi0 : (0 : Int) ≤ (i : Int) := by omega
          have hin : (i : Int) < (n : Int) := by omega
          have hil : i < n := by omega
          obtain ⟨q, hq⟩ : ∃ q, q = nextN np n i := ⟨_, rfl⟩
          have hqn : q < n := by rw [hq]; unfold nextN; split <;> omega
          obtain ⟨x, hx⟩ : ∃ x, A[i]? = some x := ⟨_, List.getElem?_eq_getElem (by rw [Hla.out]; exact hil)⟩
          obtain ⟨y, hy⟩ : ∃ y, B[i]? = some y := ⟨_, List.getElem?_eq_getElem (by rw [Hlb.out]; exact hil)⟩
          obtain ⟨z, hz⟩ : ∃ z, L'[q]? = some z := ⟨_, List.getElem?_eq_getElem (by rw [hL1]; exact hqn)⟩
          obtain ⟨v, hv⟩ : ∃ v, L'[i]? = some v := ⟨_, List.getElem?_eq_getElem (by rw [hL1]; exact hil)⟩
          have HR : Hid (∀ u, u = (x || (y && z)) → ∀ W', BBlk W' g (L'.set i u) → (BBlk W' g (L'.set i u) ∧ (L'.set i u).length = n ∧ sweepTo np n A B i (L'.set i u) = sweepTo np n A B n L)) := (show ∀ u, u = (x || (y && z)) → ∀ W', BBlk W' g (L'.set i u) → (BBlk W' g (L'.set i u) ∧ (L'.set i u).length = n ∧ sweepTo np n A B i (L'.set i u) = sweepTo np n A B n L) from fun u hu W' hW' => by
            refine ⟨hW', by rw [List.length_set]; exact hL1, ?_⟩
            rw [← hS1, sweepTo]
            congr 1
            unfold updL
            rw [List.getD_eq_getElem?_getD, List.getD_eq_getElem?_getD, List.getD_eq_getElem?_getD, hx, hy, ← hq, hz, hu]
            rfl)
          have c0 := (HA.out.chg hcw (fun e => e)).cell hx
          have c1 := (HBr.out.chg hcw (fun e => e)).cell hy
          have c2 := hB1.cell hz
          have c3 := hB1.cell hv
          have f3 := hB1.free i
          have hset : ∀ u, Chg (At1 g) w2 (wr.setCell ⟨g, i, none⟩ (.bool u)) := fun u => hcr.setCell (p := ⟨g, i, none⟩) (fun _ => rfl) _
          have Hset := Lib.hid hset
          have Hbs : Hid (∀ u, BBlk (wr.setCell ⟨g, i, none⟩ (.bool u)) g (L'.set i u)) := fun u => hB1.set i u
          have hp := tnext_any (hcw.at HT.out (fun e => e)) i hil hn (by omega) q hq
          have Hp := Lib.hid hp
          have hq0 : (0 : Int) ≤ (q : Int) := by omega
          have hqi : (q : Int) < (n : Int) := by omega
          clear hB1 hL1 hS1 hL' hiv hx hy hz hv hq hset hp hcr hcw
          cases x with
          | true =>
            go_wp2_with fail
            go_roundw
            case rel => exact ⟨i, _, rfl, by omega, by omega, Hset.out _, _, HR.out true rfl _ (Hbs.out true)⟩
            case measure => simp [intOf]
          | false =>
            cases y with
            | false =>
              go_wp2_with fail
              go_roundw
              case rel => exact ⟨i, _, rfl, by omega, by omega, Hset.out _, _, HR.out false rfl _ (Hbs.out false)⟩
              case measure => simp [intOf]
            | true =>
              go_wp2_with fail
              (with_reducible refine Hp.out.mono ?_)
              rintro e w3 ⟨rfl, rfl⟩
              go_wp2_with fail
              go_roundw
              case rel => exact ⟨i, _, rfl, by omega, by omega, Hset.out _, _, HR.out z rfl _ (Hbs.out z)⟩
              case measure => simp [intOf]
    · obtain rfl : r = 2 := by omega
      obtain ⟨hB1, hL1, hS1⟩ := hL.out
      have hLe : L = fixL np n A B b := hS1
      have HB : Hid (BBlk wr g (fixL np n A B b)) := (show BBlk wr g _ from hLe ▸ hB1)
      have Hc := Lib.hid hcw
      clear hB1 hL1 hS1 hL hLe hcr hcw t0 t1 t2 t3
      go_wp2
      go_ret
      exact ⟨Hc.out, _, by omega, rfl, HB.out⟩
end
end Go.Proofs.Ytkgfdgfhpdhhaaa
