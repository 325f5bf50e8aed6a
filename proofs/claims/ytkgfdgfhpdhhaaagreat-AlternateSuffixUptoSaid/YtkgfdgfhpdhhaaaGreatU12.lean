/- Parts of the walks and of the plain theory: The closures of a table. Conditions: the rows lie in the world. -/
import Derived.Test.YtkgfdgfhpdhhaaaGreatU11
import Derived.Lib.AppendZeros
import Derived.Test.YtkgfdgfhpdhhaaaGreatU02
import Derived.Test.YtkgfdgfhpdhhaaaGreatU04
namespace Go.Proofs.YtkgfdgfhpdhhaaaGreat
open Go.ChangeShapes Go.WideShapes Go.RowKit
theorem tand_any (x y : Bool) (w : World) : Calls Tryz.prog 106 #[.bool x, .bool y] w fun e w' => e = .returned (.bool (x && y)) ∧ Chg Nob w w' := by
  cases x
  all_goals
    go_enter Tryz.func106, Tryz.ntmps106
    go_wp2
    go_ret
    exact ⟨rfl, Chg.refl _ _⟩
theorem tor_any (x y : Bool) (w : World) : Calls Tryz.prog 107 #[.bool x, .bool y] w fun e w' => e = .returned (.bool (x || y)) ∧ Chg Nob w w' := by
  cases x
  all_goals
    go_enter Tryz.func107, Tryz.ntmps107
    go_wp2
    go_ret
    exact ⟨rfl, Chg.refl _ _⟩
theorem imp_b_any (x y : Bool) (w : World) : Calls Tryz.prog 108 #[.bool x, .bool y] w fun e w' => e = .returned (.bool (!x || y)) ∧ Chg Nob w w' := by
  cases x
  all_goals
    go_enter Tryz.func108, Tryz.ntmps108
    go_wp2
    go_ret
    exact ⟨rfl, Chg.refl _ _⟩
theorem iff_b_any (x y : Bool) (w : World) : Calls Tryz.prog 109 #[.bool x, .bool y] w fun e w' => e = .returned (.bool (x == y)) ∧ Chg Nob w w' := by
  cases x <;> cases y
  all_goals
    go_enter Tryz.func109, Tryz.ntmps109
    go_wp2
    go_ret
    exact ⟨rfl, Chg.refl _ _⟩
theorem is_any (w : World) (g : Nat) (x : Bool) (i : Int) (hb : w.cell? ⟨g, 0, none⟩ = some (.bool x)) : Calls Tryz.prog 98 #[.int .i64 i, .pointer (some ⟨g, 0, none⟩)] w fun e w' => e = .returned (.bool x) ∧ Chg Nob w w' := by
  go_enter Tryz.func98, Tryz.ntmps98
  go_wp2
  go_ret
  exact ⟨rfl, Chg.refl _ _⟩
section
variable {tb pb : Nat} {nv : Value} {ap al : Option Addr} {np cp nl cl n : Nat} {w : World}
set_option maxRecDepth 100000 in
set_option maxHeartbeats 4000000 in
theorem all_any (hT : TabIs w tb nv ap np cp al nl cl n) (hn : n ≤ 10000) (hp : w.cell? ⟨pb, 0, none⟩ = some (.pointer (some ⟨tb, 0, none⟩))) (x : Bool) :
    Calls Tryz.prog 96 #[.bool x, .pointer (some ⟨pb, 0, none⟩)] w fun e w' => Chg Nob w w' ∧ ∃ g, w.heap.size ≤ g ∧ e = .returned (.slice (some ⟨g, 0, none⟩) n n) ∧ BBlk w' g (List.replicate n x) := by
  have hmf : ∀ (fn : Fn) (first cap : Array Value) (w : World), (Instr.makeFunc fn first cap).run Tryz.prog w = .ok (.func fn first cap) w := fun _ _ _ _ => rfl
  obtain ⟨X, hX, hcX, hbX⟩ : ∃ X, X = w.alloc (.cells #[.bool x] 4) ∧ Chg Nob w X ∧ X.heap[w.heap.size]? = some (.cells #[.bool x] 4 (0, 0)) := ⟨_, rfl, (Chg.refl _ _).alloc _, heap_alloc_new _ _⟩
  have hc := each_any (w := X) (hcX.at hT (fun e => e)) hn 98 #[.pointer (some ⟨w.heap.size, 0, none⟩)] (enters_of Tryz.func98 (by kernel_rfl) rfl) (fun _ => x) (fun i hi W hW => is_any W w.heap.size x i (cell_row (hW.at hbX (fun e => e)) 0 rfl))
  have hpX := hcX.cell' hp (fun e => e)
  rw [hX] at hpX
  have HcX := Lib.hid hcX
  have hsX := hcX.size
  clear hT hp hcX hbX
  go_enter Tryz.func96, Tryz.ntmps96
  go_wp2_with fail
  rw [← hX]
  clear hX hpX
  (with_reducible refine hc.mono ?_)
  clear hc
  rintro e w2 ⟨hc2, g, hg, rfl, hbg⟩
  have hbg0 : BBlk w2 g (List.replicate n x) := by
    rw [show List.replicate n x = (List.range n).map (fun _ => x) by rw [List.map_const', List.length_range]]
    exact hbg
  have Hbg := Lib.hid hbg0
  have Hc2 := Lib.hid (HcX.out.trans1 hc2)
  clear hbg hbg0 hc2
  go_wp2
  go_ret
  exact ⟨Hc2.out, _, by omega, rfl, Hbg.out⟩
variable {lb rg ga : Nat} {A : List Bool} {k c : Nat}
set_option maxRecDepth 100000 in
set_option maxHeartbeats 4000000 in
theorem not1_any (hl : w.cell? ⟨lb, 0, none⟩ = some (.slice (some ⟨rg, 0, none⟩) k c)) (hk : 0 < k) (hr : w.cell? ⟨rg, 0, none⟩ = some (.slice (some ⟨ga, 0, none⟩) n n)) (hA : BBlk w ga A) (i : Nat) (hi : i < n) (x : Bool) (hx : A[i]? = some x) :
    Calls Tryz.prog 101 #[.int .i64 (i : Int), .pointer (some ⟨lb, 0, none⟩)] w fun e w' => e = .returned (.bool (!x)) ∧ Chg Nob w w' := by
  have c0 := hA.cell hx
  have hi0 : (0 : Int) ≤ (i : Int) := by omega
  have hin : (i : Int) < (n : Int) := by omega
  have hki : (0 : Int) < (k : Int) := by omega
  clear hA hx
  go_enter Tryz.func101, Tryz.ntmps101
  go_wp2
  go_ret
  exact ⟨rfl, Chg.refl _ _⟩
set_option maxRecDepth 100000 in
set_option maxHeartbeats 4000000 in
theorem next1_any (hT : TabIs w tb nv ap np cp al nl cl n) (hn : n ≤ 10000) (hnp : np < n) (hp : w.cell? ⟨pb, 0, none⟩ = some (.pointer (some ⟨tb, 0, none⟩))) (hl : w.cell? ⟨lb, 0, none⟩ = some (.slice (some ⟨rg, 0, none⟩) k c)) (hk : 0 < k) (hr : w.cell? ⟨rg, 0, none⟩ = some (.slice (some ⟨ga, 0, none⟩) n n)) (hA : BBlk w ga A) (i : Nat) (hi : i < n) (x : Bool) (hx : A[nextN np n i]? = some x) :
    Calls Tryz.prog 102 #[.int .i64 (i : Int), .pointer (some ⟨lb, 0, none⟩), .pointer (some ⟨pb, 0, none⟩)] w fun e w' => e = .returned (.bool x) ∧ Chg Nob w w' := by
  obtain ⟨q, hq⟩ : ∃ q, q = nextN np n i := ⟨_, rfl⟩
  rw [← hq] at hx
  have hqn : q < n := by rw [hq]; unfold nextN; split <;> omega
  have c0 := hA.cell hx
  have hq0 : (0 : Int) ≤ (q : Int) := by omega
  have hqi : (q : Int) < (n : Int) := by omega
  have hki : (0 : Int) < (k : Int) := by omega
  have hc : Hid (Calls Tryz.prog 103 #[.pointer (some ⟨tb, 0, none⟩), .int .i64 (i : Int)] w.drew fun e w' => e = .returned (.int .i64 (q : Int)) ∧ w' = w.drew) := tnext_any (w := w.drew) hT i hi hn (by omega) q hq
  clear hT hA hx hq hi hnp
  go_enter Tryz.func102, Tryz.ntmps102
  go_wp2_with fail
  refine wp_region_free (fun _ => true) (fun w' => w'.cell? ⟨pb, 0, none⟩ = some (.pointer (some ⟨tb, 0, none⟩)) ∧ w'.cell? ⟨lb, 0, none⟩ = some (.slice (some ⟨rg, 0, none⟩) k c) ∧ w'.cell? ⟨rg, 0, none⟩ = some (.slice (some ⟨ga, 0, none⟩) n n) ∧ w'.cell? ⟨ga, q, none⟩ = some (.bool x)) (by kernel_rfl) ⟨hp, hl, hr, c0⟩ (fun hHeld => ?_)
  refine wpAnyG_take (i := 0) (v := ?_) rfl (by kernel_rfl) (fun _ _ _ h => h) (Or.inl ⟨by rfl, ?_⟩) hHeld ?_
  rotate_left
  · intro w hSw; obtain ⟨hp, hl, hr, c0⟩ := hSw; go_simp; (try (with_reducible rfl))
  simp only [Act.put, List.setIfInBounds_toArray]
  refine wpAnyG_take (i := 1) (v := ?_) rfl (by kernel_rfl) (fun _ _ _ h => h) (Or.inl ⟨by rfl, ?_⟩) hHeld ?_
  rotate_left
  · intro w hSw; obtain ⟨hp, hl, hr, c0⟩ := hSw; go_simp; (try (with_reducible rfl))
  try simp only [Act.put]
  refine wpAnyG_take (i := 2) (v := ?_) rfl (by kernel_rfl) (fun _ _ _ h => h) (Or.inl ⟨by rfl, ?_⟩) hHeld ?_
  rotate_left
  · intro w hSw; obtain ⟨hp, hl, hr, c0⟩ := hSw; go_simp; (try (with_reducible rfl))
  try simp only [Act.put]
  refine wpAnyG_take (i := 3) (v := ?_) rfl (by kernel_rfl) (fun _ _ _ h => h) (Or.inl ⟨by rfl, ?_⟩) hHeld ?_
  rotate_left
  · intro w hSw; obtain ⟨hp, hl, hr, c0⟩ := hSw; go_simp; (try (with_reducible rfl))
  try simp only [Act.put]
  refine wpAnyG_take (i := 4) (v := ?_) rfl (by kernel_rfl) (fun _ _ _ h => h) (Or.inl ⟨by kernel_rfl, ?_⟩) hHeld ?_
  rotate_left
  · intro w hSw; obtain ⟨hp, hl, hr, c0⟩ := hSw; go_simp; (try (with_reducible rfl))
  try simp only [Act.put]
  refine wpAnyG_ready (rs := [5]) (by kernel_rfl) (by simp) ?_
  refine AllReadyG.cons rfl (fun K hK => ?_) AllReadyG.nil
  rw [if_pos (by kernel_rfl)]
  go_simp
  (with_reducible refine hc.out.mono ?_)
  rintro e w3 ⟨rfl, rfl⟩
  refine hK.out _ _ (fun _ => hHeld) ?_
  clear hK K
  try simp only [Act.put]
  refine wpAnyG_take (i := 6) (v := ?_) rfl (by kernel_rfl) (fun _ _ _ h => h) (Or.inl ⟨by kernel_rfl, ?_⟩) hHeld ?_
  rotate_left
  · intro w hSw; obtain ⟨hp, hl, hr, c0⟩ := hSw; go_simp; (try (with_reducible rfl))
  try simp only [Act.put]
  refine wpAnyG_take (i := 7) (v := ?_) rfl (by kernel_rfl) (fun _ _ _ h => h) (Or.inl ⟨by kernel_rfl, ?_⟩) hHeld ?_
  rotate_left
  · intro w hSw; obtain ⟨hp, hl, hr, c0⟩ := hSw; go_simp; (try (with_reducible rfl))
  try simp only [Act.put]
  refine wpAnyG_take (i := 8) (v := ?_) rfl (by kernel_rfl) (fun _ _ _ h => h) (Or.inl ⟨by kernel_rfl, ?_⟩) hHeld ?_
  rotate_left
  · intro w hSw; obtain ⟨hp, hl, hr, c0⟩ := hSw; go_simp; (try (with_reducible rfl))
  try simp only [Act.put]
  refine wpAnyG_done (by kernel_rfl) ?_ _
  go_simp
  go_wp2
  go_ret
  exact ⟨rfl, (Chg.refl _ _).drew⟩
end
end Go.Proofs.YtkgfdgfhpdhhaaaGreat
namespace Go.Proofs.YtkgfdgfhpdhhaaaGreat
open Go.ChangeShapes Go.WideShapes Go.RowKit
set_option maxRecDepth 100000 in
set_option maxHeartbeats 4000000 in
theorem ugrow_any (n : Nat) (h1 : 1 ≤ n) (hn : n ≤ 10000) (w : World) : Calls Tryz.prog 64 #[.slice none 0 0, .int .i64 (n : Int)] w fun e w' => Chg Nob w w' ∧ ∃ v, e = .returned v ∧ w'.ownsRow w.heap.size 53 1 v 0 [] := by
  obtain ⟨i, hi, hz, hs, hb⟩ := info25_parts
  have hrun := Lib.run_append_nil_zeros (P := Tryz.prog) w 26 3 26 53 i (.int .u64 0) .i64 .i64 Tryz.underlying26 Tryz.underlying3 hi hz n h1 (by rw [hs]; omega) (by omega) (by rw [hb]; omega)
  obtain ⟨G, hG⟩ : ∃ G, G = grownCap w n 0 53 := ⟨_, rfl⟩
  have hGn : n ≤ G := hG ▸ grownCap_ge w _ _ _
  have hGm : G ≤ maxLen := hG ▸ grownCap_le_maxLen w n 0 53 (by unfold maxLen; omega)
  rw [← hG] at hrun
  obtain ⟨Z, hZ⟩ : ∃ Z, Z = Builtin.zeroCells (Value.cells (.int .u64 0)) n ++ Builtin.zeroCells (Value.cells (.int .u64 0)) (G - n) := ⟨_, rfl⟩
  have hZs : Z.size = G * 1 := by
    rw [hZ, Array.size_append]
    simp [Builtin.zeroCells, Value.cells]
    omega
  rw [← hZ] at hrun
  have hrow : (w.drew.alloc (.cells Z 53)).ownsRow w.heap.size 53 1 (.slice (some ⟨w.heap.size, 0, none⟩) 0 G) 0 [] := World.ownsRow_made w.drew Z G (Nat.le_refl _) hGm hZs
  have hc : Chg Nob w (w.drew.alloc (.cells Z 53)) := ((Chg.refl _ _).drew).alloc _
  have Hrow := Lib.hid hrow
  have Hc := Lib.hid hc
  have hni : ¬ (n : Int) < 0 := by omega
  have hni2 : (0 : Int) < (n : Int) := by omega
  have hni3 : (n : Int) ≤ 10000 := by omega
  have hGi : 0 ≤ G := Nat.zero_le _
  unfold maxLen at hGm
  clear hrow hc hZ hZs hG
  have Hrun := Lib.hid hrun
  clear hrun
  go_enter Tryz.func64, Tryz.ntmps64
  go_wp2_with (refine wpList_append_known rfl _ _ 26 3 rfl _ _ rfl rfl _ _ Hrun.out ?_)
  go_wp2
  go_ret
  exact ⟨Hc.out, _, rfl, Hrow.out⟩
theorem append_u {B : Nat} {w : World} {v : Value} {n : Nat} {xs : List Value} {ao : Option Addr} {M : List Int} {c : Nat} (h : w.ownsRow B 53 1 v n xs) (hB : B ≤ w.heap.size) (hn : n + M.length ≤ 1000000) (hM : URow w ao M) (hnil : ao = none → c = 0) :
    ∃ v' w', (Builtin.append_ #[26, 26] 26 #[v, .slice ao M.length c]).run Tryz.prog w = .ok v' w' ∧ w'.ownsRow B 53 1 v' (n + M.length) (xs ++ uvs M) ∧ w.grownBy w' v.ownBlock := by
  cases ao with
  | some a =>
    obtain ⟨v', w', h1, h2, h3, _⟩ := append25 c h hB hn (fun j x hj => by obtain ⟨_, e, h⟩ := hM j x hj; cases e; exact h)
    exact ⟨v', w', h1, h2, h3⟩
  | none =>
    have hM0 : M = [] := by
      cases M with
      | nil => rfl
      | cons x M => obtain ⟨_, e, _⟩ := hM 0 x rfl; cases e
    subst hM0
    obtain rfl := hnil rfl
    obtain ⟨i, hi, hz, hs, hb⟩ := info25_parts
    refine ⟨v, w, run_append_owned_none (P := Tryz.prog) (w := w) B 26 26 53 i 1 Tryz.underlying26 hi v n xs h, ?_, ⟨rfl, rfl, rfl, Nat.le_refl _, fun _ _ _ => rfl⟩⟩
    rw [show uvs [] = [] from rfl, List.append_nil]
    exact h
section
variable {ap al : Option Addr} {cp cl rb c : Nat} {P L : List Int} {w : World}
set_option maxRecDepth 100000 in
set_option maxHeartbeats 4000000 in
theorem concat_any (hl : P.length + L.length ≤ 10000) (h0 : 0 < L.length) (hP : URow w ap P) (hL : URow w al L) (hnp : ap = none → cp = 0) (hnl : al = none → cl = 0)
    (hb : w.heap[rb]? = some (.cells #[.slice ap P.length cp, .slice al L.length cl] 26 (0, 0))) :
    Calls Tryz.prog 32 #[.slice (some ⟨rb, 0, none⟩) 2 c] w fun e w' => Chg Nob w w' ∧ ∃ v, e = .returned v ∧ w'.ownsRow w.heap.size 53 1 v (P.length + L.length) (uvs (P ++ L)) := by
  have hg := ugrow_any (P.length + L.length) (by omega) hl w
  rw [Int.natCast_add] at hg
  obtain ⟨c0, c1, _⟩ := cell_two hb
  have HP := Lib.hid hP
  have HL := Lib.hid hL
  have Hnp := Lib.hid hnp
  have Hnl := Lib.hid hnl
  have Hb := Lib.hid hb
  have hpl : (P.length : Int) ≤ 10000 := by omega
  have hll : (L.length : Int) ≤ 10000 := by omega
  have hsum : ((P.length : Int) + (L.length : Int)) ≤ 10000 := by omega
  clear hP hL hnp hnl hb
  go_enter Tryz.func32, Tryz.ntmps32
  go_wp2_with fail
  refine wp_loop_rounds 3 ?_
  rw [rounds_succ]
  go_wp2_with fail
  rw [rounds_succ]
  go_wp2_with fail
  rw [rounds_succ]
  go_wp2_with fail
  (with_reducible refine hg.mono ?_)
  clear hg c0 c1
  rintro e w2 ⟨hc2, v, rfl, hrow⟩
  have hs2 := hc2.size
  have h1 := append_u (ao := ap) (M := P) (c := cp) hrow hs2 (by omega) (HP.out.nob hc2) Hnp.out
  obtain ⟨v3, h1⟩ := h1
  obtain ⟨w3, h1⟩ := h1
  have hrun3 := h1.1
  have hrow3 := h1.2.1
  have hgr3 := h1.2.2
  have hc3 : Chg Nob w w3 := hc2.trans (S' := fun b => v.ownBlock = some b) ((Chg.refl _ _).grown hgr3 (fun k e _ => e)) (fun i hi e => by have := (hrow.lt i e).1; omega)
  rw [Nat.zero_add, List.nil_append] at hrow3
  have hs3 := hc3.size
  have h2 := append_u (ao := al) (M := L) (c := cl) hrow3 hs3 (by omega) (HL.out.nob hc3) Hnl.out
  obtain ⟨v4, h2⟩ := h2
  obtain ⟨w4, h2⟩ := h2
  have hrun4 := h2.1
  have hrow4 := h2.2.1
  have hgr4 := h2.2.2
  have hc4 : Chg Nob w w4 := hc3.trans (S' := fun b => v3.ownBlock = some b) ((Chg.refl _ _).grown hgr4 (fun k e _ => e)) (fun i hi e => by have := (hrow3.lt i e).1; omega)
  have he : uvs P ++ uvs L = uvs (P ++ L) := by unfold uvs; rw [List.map_append]
  rw [he] at hrow4
  have Hrow4 := Lib.hid hrow4
  have Hc4 := Lib.hid hc4
  have Hrun3 := Lib.hid hrun3
  have Hrun4 := Lib.hid hrun4
  obtain ⟨c0, c1, _⟩ := cell_two (hc2.at Hb.out (fun e => e))
  obtain ⟨d0, d1, _⟩ := cell_two (hc3.at Hb.out (fun e => e))
  clear h1 h2 hrow hrow3 hrow4 hgr3 hgr4 hc2 hc3 hc4 hrun3 hrun4 he hs2 hs3
  go_wp2_with fail
  refine wp_loop_rounds 3 ?_
  rw [rounds_succ]
  go_wp2_with (refine wpList_append_known rfl _ _ 26 26 rfl _ _ rfl rfl _ w3 Hrun3.out ?_)
  rw [rounds_succ]
  go_wp2_with (refine wpList_append_known rfl _ _ 26 26 rfl _ _ rfl rfl _ w4 Hrun4.out ?_)
  rw [rounds_succ]
  go_wp2
  go_ret
  exact ⟨Hc4.out, _, rfl, Hrow4.out⟩
end
end Go.Proofs.YtkgfdgfhpdhhaaaGreat
namespace Go.Proofs.YtkgfdgfhpdhhaaaGreat
open Go.ChangeShapes Go.WideShapes Go.RowKit Go.Shelf
attribute [local go_sem] Oper.semAt_some
def ltr (M : List Int) (j : Nat) : Int := M[j]?.getD 0
theorem letters_any (v : Value) (a b : Value) (hv : v = .agg #[a, b]) (w : World) : Calls Tryz.prog 100 #[v] w fun e w' => e = .returned (.func (.func 150) #[] #[.pointer (some ⟨w.heap.size, 0, none⟩)]) ∧ w' = w.alloc (.cells #[a, b] 28) := by
  have hmf : ∀ (fn : Fn) (first cap : Array Value) (w : World), (Instr.makeFunc fn first cap).run Tryz.prog w = .ok (.func fn first cap) w := fun _ _ _ _ => rfl
  subst hv
  go_enter Tryz.func100, Tryz.ntmps100
  go_wp2
  go_ret
  exact ⟨rfl, rfl⟩
theorem range_pre {a b : Nat} (h : a ≤ b) : List.range a <+: List.range b := ⟨(List.range (b - a)).map (a + ·), by rw [← List.range_add, Nat.add_sub_cancel' h]⟩
theorem add_zero_off (g k : Nat) : (⟨g, 0, none⟩ : Addr).add k = ⟨g, k, none⟩ := by
  unfold Addr.add
  split
  · subst_vars; rfl
  · rw [Nat.zero_add]
set_option maxRecDepth 100000 in
set_option maxHeartbeats 4000000 in
theorem letters_iter (E : Nat → Prop) (n0 n : Nat) (hn : 1 ≤ n) (V0 : Nat → Prop) (bx : Nat) {ap al : Option Addr} {cp cl : Nat} {P L : List Int} (w : World) (hb : w.heap[bx]? = some (.cells #[.slice ap P.length cp, .slice al L.length cl] 28 (0, 0)))
    (hl : P.length + L.length ≤ 10000) (h0L : 0 < L.length) (hP : URow w ap P) (hL : URow w al L) (hnp : ap = none → cp = 0) (hnl : al = none → cl = 0) (hV : ∀ k, V0 k → k < w.heap.size) (hE : ¬ E 53) :
    Iter E n0 n 150 #[.pointer (some ⟨bx, 0, none⟩)] (fun (j : Nat) => #[.int .i64 (j : Int), .int .u64 (ltr (P ++ L) j)]) V0 (List.range (P.length + L.length)) w := by
  intro l J Jx W hcW hlo hlW hJ hJx hY h0
  obtain ⟨c0, c1, _⟩ := cell_two (hcW.at hb (fun e => e))
  obtain ⟨X, hX, hcX, hbX⟩ : ∃ X, X = W.alloc (.cells #[.slice ap P.length cp, .slice al L.length cl] 26) ∧ Chg Nob W X ∧ X.heap[W.heap.size]? = some (.cells #[.slice ap P.length cp, .slice al L.length cl] 26 (0, 0)) := ⟨_, rfl, (Chg.refl _ _).alloc _, heap_alloc_new _ _⟩
  have hcat := concat_any (w := X) (rb := W.heap.size) (c := 2) hl h0L (hP.nob (hcW.trans1 hcX)) (hL.nob (hcW.trans1 hcX)) hnp hnl hbX
  have hsX := hcX.size
  have HcX := Lib.hid hcX
  obtain ⟨M, hM⟩ : ∃ M, M = P ++ L := ⟨_, rfl⟩
  obtain ⟨m, hm⟩ : ∃ m, m = P.length + L.length := ⟨_, rfl⟩
  have hMl : M.length = m := by rw [hM, List.length_append, hm]
  rw [← hM] at hcat hY
  rw [← hm] at hcat hY ⊢
  have HMl := Lib.hid hMl
  have hm4 : m ≤ 10000 := by omega
  have HY := Lib.hid hY
  have HJ := Lib.hid hJ
  clear hY hJ hJx hP hL hnp hnl hb hcX hbX hM hMl hl hm
  refine callsIn_of_wp Tryz.func150 rfl trivial ?_ rfl
  simp only [Tryz.ntmps150, List.size_toArray, List.length_cons, List.length_nil, Nat.reduceAdd, Nat.reduceSub, Array.replicate_succ, Array.replicate_zero, List.push_toArray, List.append_toArray, List.nil_append, List.cons_append]
  gi_wp2
  rw [← hX]
  clear hX c0 c1
  refine ⟨trivial, (callsIn_wide.2 hcat).mono ?_⟩
  clear hcat
  rintro e w2 ⟨hc2, v, rfl, hrow⟩
  have hsh := ownsRow_shape hrow
  obtain ⟨ao, hsh⟩ := hsh
  obtain ⟨cc, hsh⟩ := hsh
  subst hsh
  have hJ2 := HJ.out [] W w2 h0 (Steps.nob (HcX.out.trans1 hc2))
  have Hrow := Lib.hid hrow
  have hmi : (m : Int) ≤ 10000 := by omega
  have hs2 := hc2.size
  clear h0 hrow hc2 HJ
  gi_wp2
  gi_loopw [3, 4, 12] (fun _ _ i wr => ∃ k : Nat, i = .int .i64 (k : Int) ∧ k ≤ m ∧ Hid (wr.ownsRow X.heap.size 53 1 (.slice ao m cc) m (uvs M)) ∧ J (List.range k) wr) (fun _ _ i _ => m - (intOf i).toNat)
  case atStart => exact ⟨0, rfl, Nat.zero_le _, Hrow.out, hJ2⟩
  case round =>
    obtain ⟨k, rfl, hk, hrow, hj⟩ := hrel
    by_cases hlt : k < m
    · have hki : (k : Int) < (m : Int) := by omega
      have hk0 : (0 : Int) ≤ (k : Int) := by omega
      obtain ⟨x, hx⟩ : ∃ x, M[k]? = some x := ⟨_, List.getElem?_eq_getElem (by rw [HMl.out]; exact hlt)⟩
      have hlx : ltr M k = x := by unfold ltr; rw [hx]; rfl
      obtain ⟨g, cap, hv, hc⟩ := ownsRow_some hrow.out (by omega)
      simp only [Value.slice.injEq] at hv
      obtain ⟨rfl, -, -⟩ := hv
      have ck := hc k (.int .u64 x) (by unfold uvs; rw [List.getElem?_map, hx]; rfl)
      rw [add_zero_off] at ck
      have hgb := (hrow.out.lt g rfl).1
      have hy := HY.out (List.range k) k wr hj (by rw [← List.range_succ]; exact range_pre hlt)
      obtain ⟨fn, tmps, assign, body, hyr, hR3⟩ := hy
      rw [hlx] at hyr
      have Hrow' := hrow
      clear hrow hc hx hlx
      gi_wp2
      refine hR3.mono ?_
      rintro e W3 (⟨rfl, hJ3, hks⟩ | ⟨rfl, hJx3, _⟩)
      · have Hrow3 : Hid (W3.ownsRow X.heap.size 53 1 (.slice (some ⟨g, 0, none⟩) m cc) m (uvs M)) := (show W3.ownsRow X.heap.size 53 1 (.slice (some ⟨g, 0, none⟩) m cc) m (uvs M) by
          refine ⟨Hrow'.out.1, ?_⟩
          rcases Hrow'.out.2 with ⟨h, _⟩ | ⟨g', cap', cur, he, hbg, hg, rest⟩
          · cases h
          · refine .inr ⟨g', cap', cur, he, hbg, hks.same _ _ hg (fun e => e.elim (fun e => by omega) (fun e => by have := hV _ e; have := hcW.size; omega)) ?_, rest⟩
            rintro ⟨_, cs, t, mm, e1, e2⟩
            cases e1
            exact hE e2)
        have hJ4 : J (List.range (k + 1)) W3 := by rw [List.range_succ]; exact hJ3
        gi_wp2
        go_roundw
        case rel => exact ⟨k + 1, by go_num, hlt, Hrow3, hJ4⟩
        case measure => simp [intOf]; omega
      · gi_wp2
        refine bodyPost_ret (results_none rfl _ _ _) rfl ?_
        exact ⟨⟨_, rfl⟩, .inr ⟨_, by rw [← List.range_succ]; exact range_pre hlt, hJx3⟩⟩
    · obtain rfl : k = m := by omega
      gi_wp2
      go_end0
      exact ⟨⟨_, rfl⟩, .inl hj⟩
end Go.Proofs.YtkgfdgfhpdhhaaaGreat
namespace Go.Proofs.YtkgfdgfhpdhhaaaGreat
open Go.ChangeShapes Go.WideShapes Go.RowKit Go.Shelf
attribute [local go_sem] Oper.semAt_some
theorem anyIn_of_any {l n : Nat} {P : Program} {md : Region.Mode} {ops : Array Oper} {Q : Exit → Act → World → Prop} (hd : ∀ (i : Nat) (o : Oper), ops[i]? = some o → noDefer o = true) (hno : ∀ a w, ¬ Q .outgrown a w) :
    ∀ (fuel : Nat) (listed : Array Bool) (a : Act) (w : World), wpAny P md ops Q fuel listed a w → wpAnyIn (Fence.wide.inRound l) n P md ops Q fuel listed a w
  | 0, _, _, _, h => h
  | fuel + 1, listed, a, w, h => by
    refine ⟨h.1, fun i hi => ?_⟩
    have h2 := wpOp_mono (fun a' w' h' => anyIn_of_any (l := l) (n := n) hd hno fuel _ a' w' h') (h.2 i hi)
    unfold wpOp at h2
    unfold wpOpIn
    cases ho : ops[i]? with
    | none => rw [ho] at h2; exact h2
    | some o =>
      rw [ho] at h2
      dsimp only at h2 ⊢
      split
      · rename_i hw
        rw [if_pos hw] at h2
        rcases h2 with h2 | ⟨_, a', w', h3⟩
        · exact op_round (noDefer_of (hd i o ho)) h2
        · exact absurd h3 (hno a' w')
      · rename_i hw; rw [if_neg hw] at h2; exact ⟨fun _ _ => trivial, h2⟩
theorem wp_region_free_round {l n : Nat} {P : Program} {Q : Exit → Act → World → Prop} (F : Nat → Bool) (S : World → Prop) {id : Nat} {a : Act} {w : World} {ops : List Oper} (hm : P.follows .mixedOrders = true) (hd : ops.all noDefer = true) (hno : ∀ a w, ¬ Q .outgrown a w) (hS : S w.drew)
    (h : S w.drew → wpAnyG P .any ops.toArray Q F S ops.toArray.size (Array.replicate ops.toArray.size false) a w.drew) : (Code.region id ops.toArray true).wpIn (Fence.wide.inRound l) n P Q a w :=
  wpIn_region_any hm (anyIn_of_any (fun i o ho => List.all_eq_true.1 hd o (by rw [List.getElem?_toArray] at ho; exact List.mem_of_getElem? ho)) hno _ _ _ _ (wpAny_of_free _ _ _ _ (h hS)))
theorem wp_region_free_veil {l n : Nat} {P : Program} {Q : Exit → Act → World → Prop} (F : Nat → Bool) (S : World → Prop) {id : Nat} {a : Act} {w : World} {ops : List Oper} (hm : P.follows .mixedOrders = true) (hd : ops.all noDefer = true) (hS : S w.drew)
    (h : ∀ Q2 : Exit → Act → World → Prop, (∀ a w, Q .normal a w → Q2 .normal a w) → (∀ c a a' w, Q2 (.panic c) a w → Q2 (.panic c) a' w) → S w.drew → wpAnyG P .any ops.toArray Q2 F S ops.toArray.size (Array.replicate ops.toArray.size false) a w.drew) : (Code.region id ops.toArray true).wpIn (Fence.wide.inRound l) n P Q a w := by
  refine wpIn_mono (wp_region_free_round (Q := fun e a w => match e with | .normal => Q .normal a w | _ => False) F S hm hd (fun _ _ h => h) hS (fun hs => h _ (fun _ _ h => h) (fun _ _ _ _ h => h) hs)) (fun e a w h => ?_)
  cases e <;> first | exact h | exact h.elim
def onlyN (Q : Exit → Act → World → Prop) : Exit → Act → World → Prop
  | .normal, a, w => Q .normal a w
  | _, _, _ => False
theorem wp_region_free_N {P : Program} {Q : Exit → Act → World → Prop} {ops : Array Oper} (F : Nat → Bool) (S : World → Prop) {id : Nat} {a : Act} {w : World} (hm : P.follows .mixedOrders = true) (hS : S w.drew)
    (h : S w.drew → wpAnyG P .any ops (onlyN Q) F S ops.size (Array.replicate ops.size false) a w.drew) : (Code.region id ops true).wp P Q a w :=
  Go.wp_mono (wp_region_free F S hm hS h) (fun e a w h => by cases e <;> first | exact h | exact h.elim)
theorem range_pre_inv {pre : List Nat} {j m : Nat} (h : (pre ++ [j]) <+: List.range m) : j = pre.length ∧ j < m := by
  obtain ⟨r, hr⟩ := h
  have h1 : (List.range m)[pre.length]? = some j := by rw [← hr]; simp
  have hlt := (List.getElem?_eq_some_iff.1 h1).1
  rw [List.length_range] at hlt
  rw [List.getElem?_range hlt] at h1
  cases h1
  exact ⟨rfl, hlt⟩
def bitB (x : Int) (b : Nat) : Bool := bits .and .u64 (x / 2 ^ b) 1 == 1
section
variable {tb : Nat} {nv : Value} {ap al : Option Addr} {cp cl : Nat} {P L : List Int} {w : World} {names : List (List UInt8)}
set_option maxRecDepth 100000 in
set_option maxHeartbeats 4000000 in
theorem where_name (n : Nat) (hnn : n = P.length + L.length) (hT : TabIs w tb nv ap P.length cp al L.length cl n) (hl : P.length + L.length ≤ 10000) (h0L : 0 < L.length) (hP : URow w ap P) (hL : URow w al L) (hnp : ap = none → cp = 0) (hnl : al = none → cl = 0)
    (hN : Texts w nv names) (nm : List UInt8) (b : Nat) (hb : indexL names nm = (b : Int)) (hb60 : b < 60) (ao : Option Addr) (cap : Nat) :
    Calls Tryz.prog 59 #[.pointer (some ⟨tb, 0, none⟩), .agg #[.int .i64 3, .string ⟨nm.toArray⟩, .slice ao 0 cap]] w fun e w' => Chg Nob w w' ∧ ∃ g, w.heap.size ≤ g ∧ e = .returned (.slice (some ⟨g, 0, none⟩) n n) ∧ BBlk w' g ((P ++ L).map (fun x => bitB x b)) := by
  have hmf : ∀ (fn : Fn) (first cap : Array Value) (w : World), (Instr.makeFunc fn first cap).run Tryz.prog w = .ok (.func fn first cap) w := fun _ _ _ _ => rfl
  have HT := Lib.hid hT
  have HP := Lib.hid hP
  have HL := Lib.hid hL
  have HN := Lib.hid hN
  have Hnp := Lib.hid hnp
  have Hnl := Lib.hid hnl
  have Hb := Lib.hid hb
  have hn4 : n ≤ 10000 := by omega
  have Hnn := Lib.hid hnn
  clear hT hP hL hN hnp hnl hb hnn
  refine (callsIn_wide (n := 5)).1 (callsIn_of_wp_marks Tryz.func59 rfl trivial ?_ rfl)
  simp only [Tryz.ntmps59, List.size_toArray, List.length_cons, List.length_nil, Nat.reduceAdd, Nat.reduceSub, Array.replicate_succ, Array.replicate_zero, List.push_toArray, List.append_toArray, List.nil_append, List.cons_append]
  refine wpIn_wide.2 ?_
  go_wp2_with fail
  refine wp_loop_rounds 1 ?_
  rw [rounds_succ]
  go_wp2_with fail
  have hcW : Chg Nob w (((w.alloc (.cells #[.pointer (some ⟨tb, 0, none⟩)] 97)).alloc (.cells #[.int .i64 3, .string ⟨nm.toArray⟩, .slice ao 0 cap] 24)).alloc (.cells #[.slice none 0 0] 66)) := (((Chg.refl _ _).alloc _).alloc _).alloc _
  have hsW : (((w.alloc (.cells #[.pointer (some ⟨tb, 0, none⟩)] 97)).alloc (.cells #[.int .i64 3, .string ⟨nm.toArray⟩, .slice ao 0 cap] 24)).alloc (.cells #[.slice none 0 0] 66)).heap.size = w.heap.size + 3 := by simp [World.size_alloc]
  have hp0 : (((w.alloc (.cells #[.pointer (some ⟨tb, 0, none⟩)] 97)).alloc (.cells #[.int .i64 3, .string ⟨nm.toArray⟩, .slice ao 0 cap] 24)).alloc (.cells #[.slice none 0 0] 66)).cell? ⟨w.heap.size, 0, none⟩ = some (.pointer (some ⟨tb, 0, none⟩)) :=
    ((((Chg.refl Nob (w.alloc (.cells #[.pointer (some ⟨tb, 0, none⟩)] 97))).alloc _).alloc _)).cell' (cell_row (heap_alloc_new w (.cells #[.pointer (some ⟨tb, 0, none⟩)] 97)) 0 rfl) (fun e => e)
  have hk1 : (((w.alloc (.cells #[.pointer (some ⟨tb, 0, none⟩)] 97)).alloc (.cells #[.int .i64 3, .string ⟨nm.toArray⟩, .slice ao 0 cap] 24)).alloc (.cells #[.slice none 0 0] 66)).cell? ⟨w.heap.size + 1, 1, none⟩ = some (.string ⟨nm.toArray⟩) := by
    have h := heap_alloc_new (w.alloc (.cells #[.pointer (some ⟨tb, 0, none⟩)] 97)) (.cells #[.int .i64 3, .string ⟨nm.toArray⟩, .slice ao 0 cap] 24)
    rw [World.size_alloc] at h
    exact ((Chg.refl Nob _).alloc _).cell' (cell_row h 1 rfl) (fun e => e)
  have HcW := Lib.hid hcW
  have HsW := Lib.hid hsW
  have Hp0 := Lib.hid hp0
  clear hcW hsW
  generalize (((w.alloc (.cells #[.pointer (some ⟨tb, 0, none⟩)] 97)).alloc (.cells #[.int .i64 3, .string ⟨nm.toArray⟩, .slice ao 0 cap] 24)).alloc (.cells #[.slice none 0 0] 66)) = W at *
  obtain ⟨t0, t1, t2, t3⟩ := TabIs.cells (HcW.out.at HT.out (fun e => e))
  have hS : ∀ w', Chg (At1 W.heap.size) W w' → w'.cell? ⟨w.heap.size, 0, none⟩ = some (.pointer (some ⟨tb, 0, none⟩)) ∧ w'.cell? ⟨w.heap.size + 1, 1, none⟩ = some (.string ⟨nm.toArray⟩) ∧ w'.cell? ⟨tb, 0, none⟩ = some nv := fun w' h =>
    ⟨h.cell' hp0 (fun e => by have e : w.heap.size = W.heap.size := e; have := HsW.out; omega), h.cell' hk1 (fun e => by have e : w.heap.size + 1 = W.heap.size := e; have := HsW.out; omega), h.cell' t0 (fun e => by have e : tb = W.heap.size := e; have := World.block_lt_of_cell? W _ t0; have : tb < W.heap.size := this; omega)⟩
  have hSx := Lib.hid hS
  have hix : Hid (∀ V, Chg Nob w V → Calls Tryz.prog 99 #[nv, .string ⟨nm.toArray⟩] V fun e w' => e = .returned (.int .i64 (b : Int)) ∧ V = w') := fun V hV => by
    obtain ⟨a0, cp0, e0, l0, h0⟩ := HN.out
    have := index_any nv names nm V ⟨a0, cp0, e0, l0, fun j x hj => by obtain ⟨b1, o1, e1, h1⟩ := h0 j x hj; exact ⟨b1, o1, e1, hV.cell' h1 (fun e => e)⟩⟩
    rw [Hb.out] at this
    exact this
  clear hS t1 t2 t3
  refine wp_region_free_N (fun j => j != 8) (fun w' => w'.cell? ⟨w.heap.size, 0, none⟩ = some (.pointer (some ⟨tb, 0, none⟩)) ∧ w'.cell? ⟨w.heap.size + 1, 1, none⟩ = some (.string ⟨nm.toArray⟩) ∧ w'.cell? ⟨tb, 0, none⟩ = some nv) (by kernel_rfl) ⟨hp0, hk1, t0⟩ (fun hHeld => ?_)
  refine wpAnyG_take (i := 0) (v := ?_) rfl (by kernel_rfl) (fun _ _ _ h => h) (Or.inl ⟨by rfl, ?_⟩) hHeld ?_
  rotate_left
  · intro w hSw; obtain ⟨hp0, hk1, t0⟩ := hSw; go_simp; (try (with_reducible rfl))
  simp only [Act.put, List.setIfInBounds_toArray]
  refine wpAnyG_take (i := 1) (v := ?_) rfl (by kernel_rfl) (fun _ _ _ h => h) (Or.inl ⟨by rfl, ?_⟩) hHeld ?_
  rotate_left
  · intro w hSw; obtain ⟨hp0, hk1, t0⟩ := hSw; go_simp; (try (with_reducible rfl))
  try simp only [Act.put]
  refine wpAnyG_take (i := 2) (v := ?_) rfl (by kernel_rfl) (fun _ _ _ h => h) (Or.inl ⟨by rfl, ?_⟩) hHeld ?_
  rotate_left
  · intro w hSw; obtain ⟨hp0, hk1, t0⟩ := hSw; go_simp; (try (with_reducible rfl))
  try simp only [Act.put]
  refine wpAnyG_take (i := 3) (v := ?_) rfl (by kernel_rfl) (fun _ _ _ h => h) (Or.inl ⟨by rfl, ?_⟩) hHeld ?_
  rotate_left
  · intro w hSw; obtain ⟨hp0, hk1, t0⟩ := hSw; go_simp; (try (with_reducible rfl))
  try simp only [Act.put]
  refine wpAnyG_take (i := 4) (v := ?_) rfl (by kernel_rfl) (fun _ _ _ h => h) (Or.inl ⟨by kernel_rfl, ?_⟩) hHeld ?_
  rotate_left
  · intro w hSw; obtain ⟨hp0, hk1, t0⟩ := hSw; go_simp; (try (with_reducible rfl))
  try simp only [Act.put]
  refine wpAnyG_take (i := 5) (v := ?_) rfl (by kernel_rfl) (fun _ _ _ h => h) (Or.inl ⟨by kernel_rfl, ?_⟩) hHeld ?_
  rotate_left
  · intro w hSw; obtain ⟨hp0, hk1, t0⟩ := hSw; go_simp; (try (with_reducible rfl))
  try simp only [Act.put]
  refine wpAnyG_ready (rs := [6, 7]) (by kernel_rfl) (by simp) ?_
  refine AllReadyG.cons rfl (fun K hK => ?_) (AllReadyG.cons rfl (fun K hK => ?_) AllReadyG.nil)
  · rw [if_pos (by kernel_rfl)]
    go_simp
    (with_reducible refine (hix.out _ (HcW.out.trans1 (Chg.refl Nob W).drew)).mono ?_)
    rintro e w3 ⟨rfl, rfl⟩
    refine hK.out _ _ (fun _ => hHeld) ?_
    clear hK K
    try simp only [Act.put]
    refine wpAnyG_ready (rs := [7]) (by kernel_rfl) (by simp) ?_
    refine AllReadyG.cons rfl (fun K hK => ?_) AllReadyG.nil
    rw [if_pos (by kernel_rfl)]
    have hal : Chg Nob W ((W.alloc (.cells #[.int .i64 0] 3)).drew) := ((Chg.refl _ _).alloc _).drew
    have hHa := hSx.out _ hal.any
    go_simp
    refine hK.out _ _ (fun _ => hHa) ?_
    clear hK K
    try simp only [Act.put]
    refine wpAnyG_ready (rs := [8]) (by kernel_rfl) (by simp) ?_
    refine AllReadyG.cons rfl (fun K hK => ?_) AllReadyG.nil
    rw [if_pos (by kernel_rfl)]
    have hbD : ((W.alloc (.cells #[.int .i64 0] 3)).drew).heap[W.heap.size]? = some (.cells #[.int .i64 0] 3 (0, 0)) := heap_alloc_new W _
    have d0 := cell_row hbD 0 (v := .int .i64 0) rfl
    have f0 : ((W.alloc (.cells #[.int .i64 0] 3)).drew).frozen? ⟨W.heap.size, 0, none⟩ = false := by unfold World.frozen?; rw [hbD]; simp
    go_simp
    refine hK.out _ _ (fun h => absurd h (by decide)) ?_
    clear hK K d0 f0 hbD hHa hHeld hal
    try simp only [Act.put]
    refine wpAnyG_done (by kernel_rfl) ?_ _
    go_simp
    dsimp only [onlyN]
    clear hix hSx hp0 hk1 t0
    have hcV : Chg Nob W ((W.alloc (.cells #[.int .i64 (b : Int)] 3)).drew) := ((Chg.refl _ _).alloc _).drew
    have hbV : ((W.alloc (.cells #[.int .i64 (b : Int)] 3)).drew).heap[W.heap.size]? = some (.cells #[.int .i64 (b : Int)] 3 (0, 0)) := heap_alloc_new W _
    have hsV : ((W.alloc (.cells #[.int .i64 (b : Int)] 3)).drew).heap.size = W.heap.size + 1 := World.size_alloc W _
    obtain ⟨B, hB⟩ : ∃ B, B = W.heap.size := ⟨_, rfl⟩
    rw [← hB] at hbV hsV ⊢
    generalize (W.alloc (.cells #[.int .i64 (b : Int)] 3)).drew = V at *
    have HcV := Lib.hid (HcW.out.trans1 hcV)
    have HbV := Lib.hid hbV
    have HsV := Lib.hid hsV
    have HBs : Hid (B = w.heap.size + 3) := (show B = w.heap.size + 3 by rw [hB, HsW.out])
    have hp0 := hcV.cell' Hp0.out (fun e => e)
    obtain ⟨t0, t1, t2, t3⟩ := TabIs.cells (HcV.out.at HT.out (fun e => e))
    have hmk := make116 n hn4
    clear hcV hbV hsV hB
    have hcU : Chg Nob V ((V.alloc (.cells (bcells (List.replicate n false)) 4)).alloc (.cells #[.slice (some ⟨V.heap.size, 0, none⟩) n n] 34)) := ((Chg.refl _ _).alloc _).alloc _
    have hbU : BBlk ((V.alloc (.cells (bcells (List.replicate n false)) 4)).alloc (.cells #[.slice (some ⟨V.heap.size, 0, none⟩) n n] 34)) V.heap.size (List.replicate n false) := ((Chg.refl Nob _).alloc _).at (heap_alloc_new V _) (fun e => e)
    have hoU : ((V.alloc (.cells (bcells (List.replicate n false)) 4)).alloc (.cells #[.slice (some ⟨V.heap.size, 0, none⟩) n n] 34)).heap[V.heap.size + 1]? = some (.cells #[.slice (some ⟨V.heap.size, 0, none⟩) n n] 34 (0, 0)) := by
      have h := heap_alloc_new (V.alloc (.cells (bcells (List.replicate n false)) 4)) (.cells #[.slice (some ⟨V.heap.size, 0, none⟩) n n] 34)
      rwa [World.size_alloc] at h
    have hsU : ((V.alloc (.cells (bcells (List.replicate n false)) 4)).alloc (.cells #[.slice (some ⟨V.heap.size, 0, none⟩) n n] 34)).heap.size = V.heap.size + 2 := by simp [World.size_alloc]
    have p0U := hcU.cell' hp0 (fun e => e)
    have t1U := hcU.cell' t1 (fun e => e)
    have t2U := hcU.cell' t2 (fun e => e)
    have HcU := Lib.hid hcU
    have HbU := Lib.hid hbU
    have HoU := Lib.hid hoU
    have HsU := Lib.hid hsU
    clear hcU hbU hoU hsU
    go_wp2_with fail
    clear hmk t0 t1 t2 t3 hp0 p0U t1U t2U
    generalize ((V.alloc (.cells (bcells (List.replicate n false)) 4)).alloc (.cells #[.slice (some ⟨V.heap.size, 0, none⟩) n n] 34)) = U at *
    (with_reducible refine (letters_any _ _ _ rfl U).mono ?_)
    rintro e U2 ⟨rfl, hU2⟩
    subst hU2
    go_wp2_with fail
    obtain ⟨R, hR⟩ : ∃ R, R = V.heap.size := ⟨_, rfl⟩
    have hcZ : Chg Nob U (U.alloc (.cells #[.slice ap P.length cp, .slice al L.length cl] 28)) := (Chg.refl _ _).alloc _
    have hbx : (U.alloc (.cells #[.slice ap P.length cp, .slice al L.length cl] 28)).heap[U.heap.size]? = some (.cells #[.slice ap P.length cp, .slice al L.length cl] 28 (0, 0)) := heap_alloc_new U _
    have hsZ : (U.alloc (.cells #[.slice ap P.length cp, .slice al L.length cl] 28)).heap.size = U.heap.size + 1 := World.size_alloc U _
    obtain ⟨X, hX⟩ : ∃ X, X = U.heap.size := ⟨_, rfl⟩
    rw [← hX] at hbx hsZ ⊢
    have hRw : w.heap.size ≤ R := by have := HsV.out; have := HBs.out; omega
    have hRB : B < R := by have := HsV.out; omega
    have hXR : X = R + 2 := by rw [hX, HsU.out, hR]
    rw [← hR] at HbU HoU ⊢
    generalize (U.alloc (.cells #[.slice ap P.length cp, .slice al L.length cl] 28)) = Z at *
    have hcwZ : Chg Nob w Z := (HcV.out.trans1 HcU.out).trans1 hcZ
    have hit := letters_iter (fun _ => False) 0 4 (by omega) (fun k => k = R) X Z hbx hl h0L (HP.out.nob hcwZ) (HL.out.nob hcwZ) Hnp.out Hnl.out (by rintro k rfl; omega) (fun e => e)
    have hrow0 : BBlk Z R (List.replicate n false) := hcZ.at HbU.out (fun e => e)
    have hout0 := hcZ.at HoU.out (fun e => e)
    have hbit0 := hcZ.at (HcU.out.at HbV.out (fun e => e)) (fun e => e)
    have HcwZ := Lib.hid hcwZ
    clear hcZ hbx HcU HbU HoU HsU HcV HbV hcwZ hX hR
    refine wpIn_wide.1 (range_iter (E := fun _ => False) (n0 := 0) (n := 5) (gf := 150) (by omega) rfl (enters_of Tryz.func150 (by kernel_rfl) rfl) hit (by rintro k rfl; omega) (fun _ => rfl)
      (fun pre W => (∃ L', BBlk W R L' ∧ L'.length = n ∧ ∀ j, j < pre.length → L'[j]? = some (bitB (ltr (P ++ L) j) b)) ∧ W.heap[R + 1]? = some (.cells #[.slice (some ⟨R, 0, none⟩) n n] 34 (0, 0)) ∧ W.heap[B]? = some (.cells #[.int .i64 (b : Int)] 3 (0, 0)) ∧ Chg Nob w W)
      (fun _ _ _ => False) ?_ (fun _ _ _ _ h _ => h) ⟨⟨_, hrow0, List.length_replicate, fun j h => absurd h (Nat.not_lt_zero j)⟩, hout0, hbit0, HcwZ.out⟩ ?_ ?_ (fun _ _ _ _ h _ => h.elim))
    · rintro pre A A' ⟨⟨L', h1, h2, h3⟩, h4, h5, h6⟩ hs
      exact ⟨⟨L', Chg.at hs h1 (fun e => by have := e.1; omega), h2, h3⟩, Chg.at hs h4 (fun e => by have := e.1; omega), Chg.at hs h5 (fun e => by have := e.1; omega), chg_steps h6 hs (by omega)⟩
    · rintro l pre j W1 ⟨⟨L', h1, h2, h3⟩, h4, h5, h6⟩ hpre hsz
      obtain ⟨hjl, hjn⟩ := range_pre_inv hpre
      rw [← Hnn.out] at hjn
      have Hjl := Lib.hid hjl
      clear hjl
      obtain ⟨x, hx⟩ : ∃ x, x = ltr (P ++ L) j := ⟨_, rfl⟩
      rw [← hx]
      have Hx := Lib.hid hx
      have hji : (j : Int) < (n : Int) := by omega
      have hj0 : (0 : Int) ≤ (j : Int) := by omega
      simp only [zip2, List.setIfInBounds_toArray, List.set_cons_succ, List.set_cons_zero]
      clear hx hpre hit
      gi_wp2
      refine ⟨Keeps.of_chg (Chg.refl _ _), fun w₂ hc2 hst2 => ?_⟩
      have hrow2 : BBlk w₂ R L' := Chg.at hst2 h1 (fun e => by have := e.1; omega)
      have hout2 := Chg.at hst2 h4 (fun e => by have := e.1; omega)
      have hbit2 := Chg.at hst2 h5 (fun e => by have := e.1; omega)
      have hcw2 : Chg Nob w w₂ := chg_steps h6 hst2 (by omega)
      have HL3 : Hid (∀ u, u = bitB x b → ((L'.set j u).length = n ∧ ∀ i, i < (pre ++ [j]).length → (L'.set j u)[i]? = some (bitB (ltr (P ++ L) i) b))) := (show ∀ u, u = bitB x b → _ from fun u hu => ⟨by rw [List.length_set]; exact h2, fun i hi => by
        have hjl := Hjl.out
        rw [List.length_append, List.length_singleton] at hi
        by_cases e : i = j
        · subst e; rw [List.getElem?_set_self (by omega), hu, Hx.out]
        · rw [List.getElem?_set_ne (Ne.symm e)]; exact h3 i (by omega)⟩)
      obtain ⟨v0, hv0⟩ : ∃ v0, L'[j]? = some v0 := ⟨_, List.getElem?_eq_getElem (by omega)⟩
      have o0 := cell_row hout2 0 (v := .slice (some ⟨R, 0, none⟩) n n) rfl
      have b0 := cell_row hbit2 0 (v := .int .i64 (b : Int)) rfl
      have r0 := hrow2.cell hv0
      have Hrow2 := Lib.hid hrow2
      have Hout2 := Lib.hid hout2
      have Hbit2 := Lib.hid hbit2
      have Hcw2 := Lib.hid hcw2
      clear h1 h2 h3 h4 h5 h6 hrow2 hout2 hbit2 hcw2 hc2 hst2 hv0
      have hb0 : (0 : Int) ≤ (b : Int) := by omega
      have hb1 : (b : Int) < 60 := by omega
      gi_wp2
      refine wp_region_free_veil (fun j => j != 8) (fun w' => w'.cell? ⟨R + 1, 0, none⟩ = some (.slice (some ⟨R, 0, none⟩) n n) ∧ w'.cell? ⟨B, 0, none⟩ = some (.int .i64 (b : Int)) ∧ w'.cell? ⟨R, j, none⟩ = some (.bool v0)) (by kernel_rfl) (by kernel_rfl) ⟨o0, b0, r0⟩ (fun Q2 hQ2 hpan hHeld => ?_)
      refine wpAnyG_take (i := 0) (v := ?_) rfl (by kernel_rfl) (fun c _ w h => hpan c _ _ w h) (Or.inl ⟨by rfl, ?_⟩) hHeld ?_
      rotate_left
      · intro w hSw; obtain ⟨o0, b0, r0⟩ := hSw; go_simp; (try (with_reducible rfl))
      simp only [Act.put, List.setIfInBounds_toArray]
      refine wpAnyG_take (i := 1) (v := ?_) rfl (by kernel_rfl) (fun c _ w h => hpan c _ _ w h) (Or.inl ⟨by rfl, ?_⟩) hHeld ?_
      rotate_left
      · intro w hSw; obtain ⟨o0, b0, r0⟩ := hSw; go_simp; (try (with_reducible rfl))
      try simp only [Act.put]
      refine wpAnyG_take (i := 2) (v := ?_) rfl (by kernel_rfl) (fun c _ w h => hpan c _ _ w h) (Or.inl ⟨by rfl, ?_⟩) hHeld ?_
      rotate_left
      · intro w hSw; obtain ⟨o0, b0, r0⟩ := hSw; go_simp; (try (with_reducible rfl))
      try simp only [Act.put]
      refine wpAnyG_take (i := 3) (v := ?_) rfl (by kernel_rfl) (fun c _ w h => hpan c _ _ w h) (Or.inl ⟨by rfl, ?_⟩) hHeld ?_
      rotate_left
      · intro w hSw; obtain ⟨o0, b0, r0⟩ := hSw; go_simp; (try (with_reducible rfl))
      try simp only [Act.put]
      refine wpAnyG_take (i := 4) (v := ?_) rfl (by kernel_rfl) (fun c _ w h => hpan c _ _ w h) (Or.inl ⟨by kernel_rfl, ?_⟩) hHeld ?_
      rotate_left
      · intro w hSw; obtain ⟨o0, b0, r0⟩ := hSw; go_simp; (try go_bits); (try (with_reducible rfl))
      try simp only [Act.put]
      refine wpAnyG_take (i := 5) (v := ?_) rfl (by kernel_rfl) (fun c _ w h => hpan c _ _ w h) (Or.inl ⟨by kernel_rfl, ?_⟩) hHeld ?_
      rotate_left
      · intro w hSw; obtain ⟨o0, b0, r0⟩ := hSw; go_simp; (try go_bits); (try (with_reducible rfl))
      try simp only [Act.put]
      refine wpAnyG_take (i := 6) (v := ?_) rfl (by kernel_rfl) (fun c _ w h => hpan c _ _ w h) (Or.inl ⟨by kernel_rfl, ?_⟩) hHeld ?_
      rotate_left
      · intro w hSw; obtain ⟨o0, b0, r0⟩ := hSw; go_simp; (try (with_reducible rfl))
      try simp only [Act.put]
      refine wpAnyG_take (i := 7) (v := ?_) rfl (by kernel_rfl) (fun c _ w h => hpan c _ _ w h) (Or.inl ⟨by kernel_rfl, ?_⟩) hHeld ?_
      rotate_left
      · intro w hSw; obtain ⟨o0, b0, r0⟩ := hSw; go_simp; (try (with_reducible rfl))
      try simp only [Act.put]
      refine wpAnyG_ready (rs := [8]) (by kernel_rfl) (by simp) ?_
      refine AllReadyG.cons (i := 8) rfl (fun K hK => ?_) AllReadyG.nil
      rw [if_pos (by kernel_rfl)]
      have f3 := Hrow2.out.free j
      have hset : Chg (fun k => k = R) w₂ ((w₂.setCell ⟨R, j, none⟩ (.bool (bits .and .u64 (x / 2 ^ b) 1 == 1))).drew) := ((Chg.refl (fun k => k = R) w₂).setCell (p := ⟨R, j, none⟩) (fun _ => rfl) _).drew
      have Hset := Lib.hid hset
      have HR1 : Hid (BBlk ((w₂.setCell ⟨R, j, none⟩ (.bool (bits .and .u64 (x / 2 ^ b) 1 == 1))).drew) R (L'.set j (bits .and .u64 (x / 2 ^ b) 1 == 1))) := (show BBlk _ R _ from Hrow2.out.set j _)
      have Ho1 := Lib.hid (hset.at Hout2.out (fun e => by have e : R + 1 = R := e; omega))
      have Hb1 := Lib.hid (hset.at Hbit2.out (fun e => by have e : B = R := e; omega))
      have Hc1 : Hid (Chg Nob w ((w₂.setCell ⟨R, j, none⟩ (.bool (bits .and .u64 (x / 2 ^ b) 1 == 1))).drew)) := (show Chg Nob w _ from Hcw2.out.trans hset (fun i hi e => by have e : i = R := e; omega))
      clear hset
      go_simp
      refine hK.out _ _ (fun h => absurd h (by decide)) ?_
      clear hK K
      try simp only [Act.put]
      refine wpAnyG_done (by kernel_rfl) (hQ2 _ _ ?_) _
      clear hQ2 hpan o0 b0 r0 f3 hHeld
      go_simp
      exact ⟨Keeps.of_chg Hset.out, ⟨_, HR1.out, HL3.out _ rfl⟩, Ho1.out, Hb1.out, Hc1.out⟩
    · rintro W1 ⟨⟨L', h1, h2, h3⟩, h4, h5, h6⟩ hd
      have k0 := cell_row h4 0 (v := .slice (some ⟨R, 0, none⟩) n n) rfl
      have hLe : L' = (P ++ L).map (fun x => bitB x b) := by
        refine List.ext_getElem? (fun q => ?_)
        rcases Nat.lt_or_ge q n with hq | hq
        · rw [h3 q (by rw [List.length_range, ← Hnn.out]; exact hq), List.getElem?_map]
          have hq2 : q < (P ++ L).length := by rw [List.length_append, ← Hnn.out]; exact hq
          unfold ltr
          rw [List.getElem?_eq_getElem hq2]; rfl
        · rw [List.getElem?_eq_none_iff.2 (by omega), List.getElem?_eq_none_iff.2 (by rw [List.length_map, List.length_append, ← Hnn.out]; exact hq)]
      rw [hLe] at h1
      have H1 := Lib.hid h1
      have H6 := Lib.hid h6
      clear h1 h2 h3 h4 h5 h6 hLe hit
      go_wp2_with fail
      refine leaves_one hd (fun W' hc' => ⟨_, results_tmp rfl _ _ _, H6.out.trans hc' (fun i hi e => by have e : i = _ := e; omega), R, hRw, rfl, hc'.at H1.out (fun e => by have e : R = _ := e; omega)⟩)
  · rw [if_pos (by kernel_rfl)]
    have hal : Chg Nob W ((W.alloc (.cells #[.int .i64 0] 3)).drew) := ((Chg.refl _ _).alloc _).drew
    have hHa := hSx.out _ hal.any
    go_simp
    refine hK.out _ _ (fun _ => hHa) ?_
    clear hK K
    try simp only [Act.put]
    refine wpAnyG_ready (rs := [6]) (by kernel_rfl) (by simp) ?_
    refine AllReadyG.cons rfl (fun K hK => ?_) AllReadyG.nil
    rw [if_pos (by kernel_rfl)]
    go_simp
    (with_reducible refine (hix.out _ (HcW.out.trans1 hal)).mono ?_)
    rintro e w3 ⟨rfl, rfl⟩
    refine hK.out _ _ (fun _ => hHa) ?_
    clear hK K
    try simp only [Act.put]
    refine wpAnyG_ready (rs := [8]) (by kernel_rfl) (by simp) ?_
    refine AllReadyG.cons rfl (fun K hK => ?_) AllReadyG.nil
    rw [if_pos (by kernel_rfl)]
    have hbD : ((W.alloc (.cells #[.int .i64 0] 3)).drew).heap[W.heap.size]? = some (.cells #[.int .i64 0] 3 (0, 0)) := heap_alloc_new W _
    have d0 := cell_row hbD 0 (v := .int .i64 0) rfl
    have f0 : ((W.alloc (.cells #[.int .i64 0] 3)).drew).frozen? ⟨W.heap.size, 0, none⟩ = false := by unfold World.frozen?; rw [hbD]; simp
    go_simp
    refine hK.out _ _ (fun h => absurd h (by decide)) ?_
    clear hK K d0 f0 hbD hHa hHeld hal
    try simp only [Act.put]
    refine wpAnyG_done (by kernel_rfl) ?_ _
    go_simp
    dsimp only [onlyN]
    clear hix hSx hp0 hk1 t0
    have hcV : Chg Nob W ((W.alloc (.cells #[.int .i64 (b : Int)] 3)).drew) := ((Chg.refl _ _).alloc _).drew
    have hbV : ((W.alloc (.cells #[.int .i64 (b : Int)] 3)).drew).heap[W.heap.size]? = some (.cells #[.int .i64 (b : Int)] 3 (0, 0)) := heap_alloc_new W _
    have hsV : ((W.alloc (.cells #[.int .i64 (b : Int)] 3)).drew).heap.size = W.heap.size + 1 := World.size_alloc W _
    obtain ⟨B, hB⟩ : ∃ B, B = W.heap.size := ⟨_, rfl⟩
    rw [← hB] at hbV hsV ⊢
    generalize (W.alloc (.cells #[.int .i64 (b : Int)] 3)).drew = V at *
    have HcV := Lib.hid (HcW.out.trans1 hcV)
    have HbV := Lib.hid hbV
    have HsV := Lib.hid hsV
    have HBs : Hid (B = w.heap.size + 3) := (show B = w.heap.size + 3 by rw [hB, HsW.out])
    have hp0 := hcV.cell' Hp0.out (fun e => e)
    obtain ⟨t0, t1, t2, t3⟩ := TabIs.cells (HcV.out.at HT.out (fun e => e))
    have hmk := make116 n hn4
    clear hcV hbV hsV hB
    have hcU : Chg Nob V ((V.alloc (.cells (bcells (List.replicate n false)) 4)).alloc (.cells #[.slice (some ⟨V.heap.size, 0, none⟩) n n] 34)) := ((Chg.refl _ _).alloc _).alloc _
    have hbU : BBlk ((V.alloc (.cells (bcells (List.replicate n false)) 4)).alloc (.cells #[.slice (some ⟨V.heap.size, 0, none⟩) n n] 34)) V.heap.size (List.replicate n false) := ((Chg.refl Nob _).alloc _).at (heap_alloc_new V _) (fun e => e)
    have hoU : ((V.alloc (.cells (bcells (List.replicate n false)) 4)).alloc (.cells #[.slice (some ⟨V.heap.size, 0, none⟩) n n] 34)).heap[V.heap.size + 1]? = some (.cells #[.slice (some ⟨V.heap.size, 0, none⟩) n n] 34 (0, 0)) := by
      have h := heap_alloc_new (V.alloc (.cells (bcells (List.replicate n false)) 4)) (.cells #[.slice (some ⟨V.heap.size, 0, none⟩) n n] 34)
      rwa [World.size_alloc] at h
    have hsU : ((V.alloc (.cells (bcells (List.replicate n false)) 4)).alloc (.cells #[.slice (some ⟨V.heap.size, 0, none⟩) n n] 34)).heap.size = V.heap.size + 2 := by simp [World.size_alloc]
    have p0U := hcU.cell' hp0 (fun e => e)
    have t1U := hcU.cell' t1 (fun e => e)
    have t2U := hcU.cell' t2 (fun e => e)
    have HcU := Lib.hid hcU
    have HbU := Lib.hid hbU
    have HoU := Lib.hid hoU
    have HsU := Lib.hid hsU
    clear hcU hbU hoU hsU
    go_wp2_with fail
    clear hmk t0 t1 t2 t3 hp0 p0U t1U t2U
    generalize ((V.alloc (.cells (bcells (List.replicate n false)) 4)).alloc (.cells #[.slice (some ⟨V.heap.size, 0, none⟩) n n] 34)) = U at *
    (with_reducible refine (letters_any _ _ _ rfl U).mono ?_)
    rintro e U2 ⟨rfl, hU2⟩
    subst hU2
    go_wp2_with fail
    obtain ⟨R, hR⟩ : ∃ R, R = V.heap.size := ⟨_, rfl⟩
    have hcZ : Chg Nob U (U.alloc (.cells #[.slice ap P.length cp, .slice al L.length cl] 28)) := (Chg.refl _ _).alloc _
    have hbx : (U.alloc (.cells #[.slice ap P.length cp, .slice al L.length cl] 28)).heap[U.heap.size]? = some (.cells #[.slice ap P.length cp, .slice al L.length cl] 28 (0, 0)) := heap_alloc_new U _
    have hsZ : (U.alloc (.cells #[.slice ap P.length cp, .slice al L.length cl] 28)).heap.size = U.heap.size + 1 := World.size_alloc U _
    obtain ⟨X, hX⟩ : ∃ X, X = U.heap.size := ⟨_, rfl⟩
    rw [← hX] at hbx hsZ ⊢
    have hRw : w.heap.size ≤ R := by have := HsV.out; have := HBs.out; omega
    have hRB : B < R := by have := HsV.out; omega
    have hXR : X = R + 2 := by rw [hX, HsU.out, hR]
    rw [← hR] at HbU HoU ⊢
    generalize (U.alloc (.cells #[.slice ap P.length cp, .slice al L.length cl] 28)) = Z at *
    have hcwZ : Chg Nob w Z := (HcV.out.trans1 HcU.out).trans1 hcZ
    have hit := letters_iter (fun _ => False) 0 4 (by omega) (fun k => k = R) X Z hbx hl h0L (HP.out.nob hcwZ) (HL.out.nob hcwZ) Hnp.out Hnl.out (by rintro k rfl; omega) (fun e => e)
    have hrow0 : BBlk Z R (List.replicate n false) := hcZ.at HbU.out (fun e => e)
    have hout0 := hcZ.at HoU.out (fun e => e)
    have hbit0 := hcZ.at (HcU.out.at HbV.out (fun e => e)) (fun e => e)
    have HcwZ := Lib.hid hcwZ
    clear hcZ hbx HcU HbU HoU HsU HcV HbV hcwZ hX hR
    refine wpIn_wide.1 (range_iter (E := fun _ => False) (n0 := 0) (n := 5) (gf := 150) (by omega) rfl (enters_of Tryz.func150 (by kernel_rfl) rfl) hit (by rintro k rfl; omega) (fun _ => rfl)
      (fun pre W => (∃ L', BBlk W R L' ∧ L'.length = n ∧ ∀ j, j < pre.length → L'[j]? = some (bitB (ltr (P ++ L) j) b)) ∧ W.heap[R + 1]? = some (.cells #[.slice (some ⟨R, 0, none⟩) n n] 34 (0, 0)) ∧ W.heap[B]? = some (.cells #[.int .i64 (b : Int)] 3 (0, 0)) ∧ Chg Nob w W)
      (fun _ _ _ => False) ?_ (fun _ _ _ _ h _ => h) ⟨⟨_, hrow0, List.length_replicate, fun j h => absurd h (Nat.not_lt_zero j)⟩, hout0, hbit0, HcwZ.out⟩ ?_ ?_ (fun _ _ _ _ h _ => h.elim))
    · rintro pre A A' ⟨⟨L', h1, h2, h3⟩, h4, h5, h6⟩ hs
      exact ⟨⟨L', Chg.at hs h1 (fun e => by have := e.1; omega), h2, h3⟩, Chg.at hs h4 (fun e => by have := e.1; omega), Chg.at hs h5 (fun e => by have := e.1; omega), chg_steps h6 hs (by omega)⟩
    · rintro l pre j W1 ⟨⟨L', h1, h2, h3⟩, h4, h5, h6⟩ hpre hsz
      obtain ⟨hjl, hjn⟩ := range_pre_inv hpre
      rw [← Hnn.out] at hjn
      have Hjl := Lib.hid hjl
      clear hjl
      obtain ⟨x, hx⟩ : ∃ x, x = ltr (P ++ L) j := ⟨_, rfl⟩
      rw [← hx]
      have Hx := Lib.hid hx
      have hji : (j : Int) < (n : Int) := by omega
      have hj0 : (0 : Int) ≤ (j : Int) := by omega
      simp only [zip2, List.setIfInBounds_toArray, List.set_cons_succ, List.set_cons_zero]
      clear hx hpre hit
      gi_wp2
      refine ⟨Keeps.of_chg (Chg.refl _ _), fun w₂ hc2 hst2 => ?_⟩
      have hrow2 : BBlk w₂ R L' := Chg.at hst2 h1 (fun e => by have := e.1; omega)
      have hout2 := Chg.at hst2 h4 (fun e => by have := e.1; omega)
      have hbit2 := Chg.at hst2 h5 (fun e => by have := e.1; omega)
      have hcw2 : Chg Nob w w₂ := chg_steps h6 hst2 (by omega)
      have HL3 : Hid (∀ u, u = bitB x b → ((L'.set j u).length = n ∧ ∀ i, i < (pre ++ [j]).length → (L'.set j u)[i]? = some (bitB (ltr (P ++ L) i) b))) := (show ∀ u, u = bitB x b → _ from fun u hu => ⟨by rw [List.length_set]; exact h2, fun i hi => by
        have hjl := Hjl.out
        rw [List.length_append, List.length_singleton] at hi
        by_cases e : i = j
        · subst e; rw [List.getElem?_set_self (by omega), hu, Hx.out]
        · rw [List.getElem?_set_ne (Ne.symm e)]; exact h3 i (by omega)⟩)
      obtain ⟨v0, hv0⟩ : ∃ v0, L'[j]? = some v0 := ⟨_, List.getElem?_eq_getElem (by omega)⟩
      have o0 := cell_row hout2 0 (v := .slice (some ⟨R, 0, none⟩) n n) rfl
      have b0 := cell_row hbit2 0 (v := .int .i64 (b : Int)) rfl
      have r0 := hrow2.cell hv0
      have Hrow2 := Lib.hid hrow2
      have Hout2 := Lib.hid hout2
      have Hbit2 := Lib.hid hbit2
      have Hcw2 := Lib.hid hcw2
      clear h1 h2 h3 h4 h5 h6 hrow2 hout2 hbit2 hcw2 hc2 hst2 hv0
      have hb0 : (0 : Int) ≤ (b : Int) := by omega
      have hb1 : (b : Int) < 60 := by omega
      gi_wp2
      refine wp_region_free_veil (fun j => j != 8) (fun w' => w'.cell? ⟨R + 1, 0, none⟩ = some (.slice (some ⟨R, 0, none⟩) n n) ∧ w'.cell? ⟨B, 0, none⟩ = some (.int .i64 (b : Int)) ∧ w'.cell? ⟨R, j, none⟩ = some (.bool v0)) (by kernel_rfl) (by kernel_rfl) ⟨o0, b0, r0⟩ (fun Q2 hQ2 hpan hHeld => ?_)
      refine wpAnyG_take (i := 0) (v := ?_) rfl (by kernel_rfl) (fun c _ w h => hpan c _ _ w h) (Or.inl ⟨by rfl, ?_⟩) hHeld ?_
      rotate_left
      · intro w hSw; obtain ⟨o0, b0, r0⟩ := hSw; go_simp; (try (with_reducible rfl))
      simp only [Act.put, List.setIfInBounds_toArray]
      refine wpAnyG_take (i := 1) (v := ?_) rfl (by kernel_rfl) (fun c _ w h => hpan c _ _ w h) (Or.inl ⟨by rfl, ?_⟩) hHeld ?_
      rotate_left
      · intro w hSw; obtain ⟨o0, b0, r0⟩ := hSw; go_simp; (try (with_reducible rfl))
      try simp only [Act.put]
      refine wpAnyG_take (i := 2) (v := ?_) rfl (by kernel_rfl) (fun c _ w h => hpan c _ _ w h) (Or.inl ⟨by rfl, ?_⟩) hHeld ?_
      rotate_left
      · intro w hSw; obtain ⟨o0, b0, r0⟩ := hSw; go_simp; (try (with_reducible rfl))
      try simp only [Act.put]
      refine wpAnyG_take (i := 3) (v := ?_) rfl (by kernel_rfl) (fun c _ w h => hpan c _ _ w h) (Or.inl ⟨by rfl, ?_⟩) hHeld ?_
      rotate_left
      · intro w hSw; obtain ⟨o0, b0, r0⟩ := hSw; go_simp; (try (with_reducible rfl))
      try simp only [Act.put]
      refine wpAnyG_take (i := 4) (v := ?_) rfl (by kernel_rfl) (fun c _ w h => hpan c _ _ w h) (Or.inl ⟨by kernel_rfl, ?_⟩) hHeld ?_
      rotate_left
      · intro w hSw; obtain ⟨o0, b0, r0⟩ := hSw; go_simp; (try go_bits); (try (with_reducible rfl))
      try simp only [Act.put]
      refine wpAnyG_take (i := 5) (v := ?_) rfl (by kernel_rfl) (fun c _ w h => hpan c _ _ w h) (Or.inl ⟨by kernel_rfl, ?_⟩) hHeld ?_
      rotate_left
      · intro w hSw; obtain ⟨o0, b0, r0⟩ := hSw; go_simp; (try go_bits); (try (with_reducible rfl))
      try simp only [Act.put]
      refine wpAnyG_take (i := 6) (v := ?_) rfl (by kernel_rfl) (fun c _ w h => hpan c _ _ w h) (Or.inl ⟨by kernel_rfl, ?_⟩) hHeld ?_
      rotate_left
      · intro w hSw; obtain ⟨o0, b0, r0⟩ := hSw; go_simp; (try (with_reducible rfl))
      try simp only [Act.put]
      refine wpAnyG_take (i := 7) (v := ?_) rfl (by kernel_rfl) (fun c _ w h => hpan c _ _ w h) (Or.inl ⟨by kernel_rfl, ?_⟩) hHeld ?_
      rotate_left
      · intro w hSw; obtain ⟨o0, b0, r0⟩ := hSw; go_simp; (try (with_reducible rfl))
      try simp only [Act.put]
      refine wpAnyG_ready (rs := [8]) (by kernel_rfl) (by simp) ?_
      refine AllReadyG.cons (i := 8) rfl (fun K hK => ?_) AllReadyG.nil
      rw [if_pos (by kernel_rfl)]
      have f3 := Hrow2.out.free j
      have hset : Chg (fun k => k = R) w₂ ((w₂.setCell ⟨R, j, none⟩ (.bool (bits .and .u64 (x / 2 ^ b) 1 == 1))).drew) := ((Chg.refl (fun k => k = R) w₂).setCell (p := ⟨R, j, none⟩) (fun _ => rfl) _).drew
      have Hset := Lib.hid hset
      have HR1 : Hid (BBlk ((w₂.setCell ⟨R, j, none⟩ (.bool (bits .and .u64 (x / 2 ^ b) 1 == 1))).drew) R (L'.set j (bits .and .u64 (x / 2 ^ b) 1 == 1))) := (show BBlk _ R _ from Hrow2.out.set j _)
      have Ho1 := Lib.hid (hset.at Hout2.out (fun e => by have e : R + 1 = R := e; omega))
      have Hb1 := Lib.hid (hset.at Hbit2.out (fun e => by have e : B = R := e; omega))
      have Hc1 : Hid (Chg Nob w ((w₂.setCell ⟨R, j, none⟩ (.bool (bits .and .u64 (x / 2 ^ b) 1 == 1))).drew)) := (show Chg Nob w _ from Hcw2.out.trans hset (fun i hi e => by have e : i = R := e; omega))
      clear hset
      go_simp
      refine hK.out _ _ (fun h => absurd h (by decide)) ?_
      clear hK K
      try simp only [Act.put]
      refine wpAnyG_done (by kernel_rfl) (hQ2 _ _ ?_) _
      clear hQ2 hpan o0 b0 r0 f3 hHeld
      go_simp
      exact ⟨Keeps.of_chg Hset.out, ⟨_, HR1.out, HL3.out _ rfl⟩, Ho1.out, Hb1.out, Hc1.out⟩
    · rintro W1 ⟨⟨L', h1, h2, h3⟩, h4, h5, h6⟩ hd
      have k0 := cell_row h4 0 (v := .slice (some ⟨R, 0, none⟩) n n) rfl
      have hLe : L' = (P ++ L).map (fun x => bitB x b) := by
        refine List.ext_getElem? (fun q => ?_)
        rcases Nat.lt_or_ge q n with hq | hq
        · rw [h3 q (by rw [List.length_range, ← Hnn.out]; exact hq), List.getElem?_map]
          have hq2 : q < (P ++ L).length := by rw [List.length_append, ← Hnn.out]; exact hq
          unfold ltr
          rw [List.getElem?_eq_getElem hq2]; rfl
        · rw [List.getElem?_eq_none_iff.2 (by omega), List.getElem?_eq_none_iff.2 (by rw [List.length_map, List.length_append, ← Hnn.out]; exact hq)]
      rw [hLe] at h1
      have H1 := Lib.hid h1
      have H6 := Lib.hid h6
      clear h1 h2 h3 h4 h5 h6 hLe hit
      go_wp2_with fail
      refine leaves_one hd (fun W' hc' => ⟨_, results_tmp rfl _ _ _, H6.out.trans hc' (fun i hi e => by have e : i = _ := e; omega), R, hRw, rfl, hc'.at H1.out (fun e => by have e : R = _ := e; omega)⟩)
end
end Go.Proofs.YtkgfdgfhpdhhaaaGreat
