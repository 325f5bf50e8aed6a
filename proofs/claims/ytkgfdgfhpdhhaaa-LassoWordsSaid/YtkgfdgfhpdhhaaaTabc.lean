/- The closures of a table. Conditions: the rows lie in the world. -/
import Derived.Test.YtkgfdgfhpdhhaaaTabb
namespace Go.Proofs.Ytkgfdgfhpdhhaaa
open Go.ChangeShapes Go.WideShapes Go.RowKit

theorem and_any (x y : Bool) (w : World) : Calls Try.prog 126 #[.bool x, .bool y] w fun e w' => e = .returned (.bool (x && y)) ∧ Chg Nob w w' := by
  cases x
  all_goals
    go_enter Try.func126, Try.ntmps126
    go_wp2
    go_ret
    exact ⟨rfl, Chg.refl _ _⟩
theorem or_any (x y : Bool) (w : World) : Calls Try.prog 127 #[.bool x, .bool y] w fun e w' => e = .returned (.bool (x || y)) ∧ Chg Nob w w' := by
  cases x
  all_goals
    go_enter Try.func127, Try.ntmps127
    go_wp2
    go_ret
    exact ⟨rfl, Chg.refl _ _⟩
theorem imp_b_any (x y : Bool) (w : World) : Calls Try.prog 128 #[.bool x, .bool y] w fun e w' => e = .returned (.bool (!x || y)) ∧ Chg Nob w w' := by
  cases x
  all_goals
    go_enter Try.func128, Try.ntmps128
    go_wp2
    go_ret
    exact ⟨rfl, Chg.refl _ _⟩
theorem iff_b_any (x y : Bool) (w : World) : Calls Try.prog 129 #[.bool x, .bool y] w fun e w' => e = .returned (.bool (x == y)) ∧ Chg Nob w w' := by
  cases x <;> cases y
  all_goals
    go_enter Try.func129, Try.ntmps129
    go_wp2
    go_ret
    exact ⟨rfl, Chg.refl _ _⟩
theorem is_any (w : World) (g : Nat) (x : Bool) (i : Int) (hb : w.cell? ⟨g, 0, none⟩ = some (.bool x)) : Calls Try.prog 118 #[.int .i64 i, .pointer (some ⟨g, 0, none⟩)] w fun e w' => e = .returned (.bool x) ∧ Chg Nob w w' := by
  go_enter Try.func118, Try.ntmps118
  go_wp2
  go_ret
  exact ⟨rfl, Chg.refl _ _⟩
section
variable {tb pb : Nat} {nv : Value} {ap al : Option Addr} {np cp nl cl n : Nat} {w : World}
set_option maxRecDepth 100000 in
set_option maxHeartbeats 4000000 in
theorem all_any (hT : TabIs w tb nv ap np cp al nl cl n) (hn : n ≤ 10000) (hp : w.cell? ⟨pb, 0, none⟩ = some (.pointer (some ⟨tb, 0, none⟩))) (x : Bool) :
    Calls Try.prog 116 #[.bool x, .pointer (some ⟨pb, 0, none⟩)] w fun e w' => Chg Nob w w' ∧ ∃ g, w.heap.size ≤ g ∧ e = .returned (.slice (some ⟨g, 0, none⟩) n n) ∧ BBlk w' g (List.replicate n x) := by
  have hmf : ∀ (fn : Fn) (first cap : Array Value) (w : World), (Instr.makeFunc fn first cap).run Try.prog w = .ok (.func fn first cap) w := fun _ _ _ _ => rfl
  obtain ⟨X, hX, hcX, hbX⟩ : ∃ X, X = w.alloc (.cells #[.bool x] 4) ∧ Chg Nob w X ∧ X.heap[w.heap.size]? = some (.cells #[.bool x] 4 (0, 0)) := ⟨_, rfl, (Chg.refl _ _).alloc _, heap_alloc_new _ _⟩
  have hc := each_any (w := X) (hcX.at hT (fun e => e)) hn 118 #[.pointer (some ⟨w.heap.size, 0, none⟩)] (enters_of Try.func118 (by kernel_rfl) rfl) (fun _ => x) (fun i hi W hW => is_any W w.heap.size x i (cell_row (hW.at hbX (fun e => e)) 0 rfl))
  have hpX := hcX.cell' hp (fun e => e)
  rw [hX] at hpX
  have HcX := Lib.hid hcX
  have hsX := hcX.size
  clear hT hp hcX hbX
  go_enter Try.func116, Try.ntmps116
  go_wp2_with fail
  rw [← hX]
  clear hX hpX
  (with_reducible refine hc.mono ?_)
  clear hc
  rintro e w2 ⟨hc2, g, hg, rfl, hbg⟩
  have hbg0 : BBlk w2 g (List.replicate n x) := by
    rw [show List.replicate n x = (List.range n).map (fun _ => x) by rw [List.map_const', List.length_range]]
    exact hbg
  have Hbg := Lib.hid hbg0
  have Hc2 := Lib.hid (HcX.out.trans1 hc2)
  clear hbg hbg0 hc2
  go_wp2
  go_ret
  exact ⟨Hc2.out, _, by omega, rfl, Hbg.out⟩
variable {lb rg ga : Nat} {A : List Bool} {k c : Nat}
set_option maxRecDepth 100000 in
set_option maxHeartbeats 4000000 in
theorem not1_any (hl : w.cell? ⟨lb, 0, none⟩ = some (.slice (some ⟨rg, 0, none⟩) k c)) (hk : 0 < k) (hr : w.cell? ⟨rg, 0, none⟩ = some (.slice (some ⟨ga, 0, none⟩) n n)) (hA : BBlk w ga A) (i : Nat) (hi : i < n) (x : Bool) (hx : A[i]? = some x) :
    Calls Try.prog 121 #[.int .i64 (i : Int), .pointer (some ⟨lb, 0, none⟩)] w fun e w' => e = .returned (.bool (!x)) ∧ Chg Nob w w' := by
  have c0 := hA.cell hx
  have hi0 : (0 : Int) ≤ (i : Int) := by omega
  have hin : (i : Int) < (n : Int) := by omega
  have hki : (0 : Int) < (k : Int) := by omega
  clear hA hx
  go_enter Try.func121, Try.ntmps121
  go_wp2
  go_ret
  exact ⟨rfl, Chg.refl _ _⟩
set_option maxRecDepth 100000 in
set_option maxHeartbeats 4000000 in
theorem next1_any (hT : TabIs w tb nv ap np cp al nl cl n) (hn : n ≤ 10000) (hnp : np < n) (hp : w.cell? ⟨pb, 0, none⟩ = some (.pointer (some ⟨tb, 0, none⟩))) (hl : w.cell? ⟨lb, 0, none⟩ = some (.slice (some ⟨rg, 0, none⟩) k c)) (hk : 0 < k) (hr : w.cell? ⟨rg, 0, none⟩ = some (.slice (some ⟨ga, 0, none⟩) n n)) (hA : BBlk w ga A) (i : Nat) (hi : i < n) (x : Bool) (hx : A[nextN np n i]? = some x) :
    Calls Try.prog 122 #[.int .i64 (i : Int), .pointer (some ⟨lb, 0, none⟩), .pointer (some ⟨pb, 0, none⟩)] w fun e w' => e = .returned (.bool x) ∧ Chg Nob w w' := by
  obtain ⟨q, hq⟩ : ∃ q, q = nextN np n i := ⟨_, rfl⟩
  rw [← hq] at hx
  have hqn : q < n := by rw [hq]; unfold nextN; split <;> omega
  have c0 := hA.cell hx
  have hq0 : (0 : Int) ≤ (q : Int) := by omega
  have hqi : (q : Int) < (n : Int) := by omega
  have hki : (0 : Int) < (k : Int) := by omega
  have hc : Hid (Calls Try.prog 123 #[.pointer (some ⟨tb, 0, none⟩), .int .i64 (i : Int)] w.drew fun e w' => e = .returned (.int .i64 (q : Int)) ∧ w' = w.drew) := tnext_any (w := w.drew) hT i hi hn (by omega) q hq
  clear hT hA hx hq hi hnp
  go_enter Try.func122, Try.ntmps122
  go_wp2_with fail
  refine wp_region_free (fun _ => true) (fun w' => w'.cell? ⟨pb, 0, none⟩ = some (.pointer (some ⟨tb, 0, none⟩)) ∧ w'.cell? ⟨lb, 0, none⟩ = some (.slice (some ⟨rg, 0, none⟩) k c) ∧ w'.cell? ⟨rg, 0, none⟩ = some (.slice (some ⟨ga, 0, none⟩) n n) ∧ w'.cell? ⟨ga, q, none⟩ = some (.bool x)) (by kernel_rfl) ⟨hp, hl, hr, c0⟩ (fun hHeld => ?_)
  refine wpAnyG_take (i := 0) (v := ?_) rfl (by kernel_rfl) (fun _ _ _ h => h) (Or.inl ⟨by rfl, ?_⟩) hHeld ?_
  rotate_left
  · intro w hSw; obtain ⟨hp, hl, hr, c0⟩ := hSw; go_simp; (try (with_reducible rfl))
  simp only [Act.put, List.setIfInBounds_toArray]
  refine wpAnyG_take (i := 1) (v := ?_) rfl (by kernel_rfl) (fun _ _ _ h => h) (Or.inl ⟨by rfl, ?_⟩) hHeld ?_
  rotate_left
  · intro w hSw; obtain ⟨hp, hl, hr, c0⟩ := hSw; go_simp; (try (with_reducible rfl))
  try simp only [Act.put]
  refine wpAnyG_take (i := 2) (v := ?_) rfl (by kernel_rfl) (fun _ _ _ h => h) (Or.inl ⟨by rfl, ?_⟩) hHeld ?_
  rotate_left
  · intro w hSw; obtain ⟨hp, hl, hr, c0⟩ := hSw; go_simp; (try (with_reducible rfl))
  try simp only [Act.put]
  refine wpAnyG_take (i := 3) (v := ?_) rfl (by kernel_rfl) (fun _ _ _ h => h) (Or.inl ⟨by rfl, ?_⟩) hHeld ?_
  rotate_left
  · intro w hSw; obtain ⟨hp, hl, hr, c0⟩ := hSw; go_simp; (try (with_reducible rfl))
  try simp only [Act.put]
  refine wpAnyG_take (i := 4) (v := ?_) rfl (by kernel_rfl) (fun _ _ _ h => h) (Or.inl ⟨by kernel_rfl, ?_⟩) hHeld ?_
  rotate_left
  · intro w hSw; obtain ⟨hp, hl, hr, c0⟩ := hSw; go_simp; (try (with_reducible rfl))
  try simp only [Act.put]
  refine wpAnyG_ready (rs := [5]) (by kernel_rfl) (by simp) ?_
  refine AllReadyG.cons rfl (fun K hK => ?_) AllReadyG.nil
  rw [if_pos (by kernel_rfl)]
  go_simp
  (with_reducible refine hc.out.mono ?_)
  rintro e w3 ⟨rfl, rfl⟩
  refine hK.out _ _ (fun _ => hHeld) ?_
  clear hK K
  try simp only [Act.put]
  refine wpAnyG_take (i := 6) (v := ?_) rfl (by kernel_rfl) (fun _ _ _ h => h) (Or.inl ⟨by kernel_rfl, ?_⟩) hHeld ?_
  rotate_left
  · intro w hSw; obtain ⟨hp, hl, hr, c0⟩ := hSw; go_simp; (try (with_reducible rfl))
  try simp only [Act.put]
  refine wpAnyG_take (i := 7) (v := ?_) rfl (by kernel_rfl) (fun _ _ _ h => h) (Or.inl ⟨by kernel_rfl, ?_⟩) hHeld ?_
  rotate_left
  · intro w hSw; obtain ⟨hp, hl, hr, c0⟩ := hSw; go_simp; (try (with_reducible rfl))
  try simp only [Act.put]
  refine wpAnyG_take (i := 8) (v := ?_) rfl (by kernel_rfl) (fun _ _ _ h => h) (Or.inl ⟨by kernel_rfl, ?_⟩) hHeld ?_
  rotate_left
  · intro w hSw; obtain ⟨hp, hl, hr, c0⟩ := hSw; go_simp; (try (with_reducible rfl))
  try simp only [Act.put]
  refine wpAnyG_done (by kernel_rfl) ?_ _
  go_simp
  go_wp2
  go_ret
  exact ⟨rfl, (Chg.refl _ _).drew⟩
end
end Go.Proofs.Ytkgfdgfhpdhhaaa
