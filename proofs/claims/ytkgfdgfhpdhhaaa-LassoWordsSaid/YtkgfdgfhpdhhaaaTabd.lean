/- Two rows of letters put one behind the other. Conditions: the rows lie in the world, they are short. -/
import Derived.Test.YtkgfdgfhpdhhaaaTabc
import Derived.Lib.AppendZeros
namespace Go.Proofs.Ytkgfdgfhpdhhaaa
open Go.ChangeShapes Go.WideShapes Go.RowKit

set_option maxRecDepth 100000 in
set_option maxHeartbeats 4000000 in
theorem ugrow_any (n : Nat) (h1 : 1 ≤ n) (hn : n ≤ 10000) (w : World) : Calls Try.prog 156 #[.slice none 0 0, .int .i64 (n : Int)] w fun e w' => Chg Nob w w' ∧ ∃ v, e = .returned v ∧ w'.ownsRow w.heap.size 25 1 v 0 [] := by
  obtain ⟨i, hi, hz, hs, hb⟩ := info25_parts
  have hrun := Lib.run_append_nil_zeros (P := Try.prog) w 22 3 22 25 i (.int .u64 0) .i64 .i64 Try.underlying22 Try.underlying3 hi hz n h1 (by rw [hs]; omega) (by omega) (by rw [hb]; omega)
  obtain ⟨G, hG⟩ : ∃ G, G = grownCap w n 0 25 := ⟨_, rfl⟩
  have hGn : n ≤ G := hG ▸ grownCap_ge w _ _ _
  have hGm : G ≤ maxLen := hG ▸ grownCap_le_maxLen w n 0 25 (by unfold maxLen; omega)
  rw [← hG] at hrun
  obtain ⟨Z, hZ⟩ : ∃ Z, Z = Builtin.zeroCells (Value.cells (.int .u64 0)) n ++ Builtin.zeroCells (Value.cells (.int .u64 0)) (G - n) := ⟨_, rfl⟩
  have hZs : Z.size = G * 1 := by
    rw [hZ, Array.size_append]
    simp [Builtin.zeroCells, Value.cells]
    omega
  rw [← hZ] at hrun
  have hrow : (w.drew.alloc (.cells Z 25)).ownsRow w.heap.size 25 1 (.slice (some ⟨w.heap.size, 0, none⟩) 0 G) 0 [] := World.ownsRow_made w.drew Z G (Nat.le_refl _) hGm hZs
  have hc : Chg Nob w (w.drew.alloc (.cells Z 25)) := ((Chg.refl _ _).drew).alloc _
  have Hrow := Lib.hid hrow
  have Hc := Lib.hid hc
  have hni : ¬ (n : Int) < 0 := by omega
  have hni2 : (0 : Int) < (n : Int) := by omega
  have hni3 : (n : Int) ≤ 10000 := by omega
  have hGi : 0 ≤ G := Nat.zero_le _
  unfold maxLen at hGm
  clear hrow hc hZ hZs hG
  have Hrun := Lib.hid hrun
  clear hrun
  go_enter Try.func156, Try.ntmps156
  go_wp2_with (refine wpList_append_known rfl _ _ 22 3 rfl _ _ rfl rfl _ _ Hrun.out ?_)
  go_wp2
  go_ret
  exact ⟨Hc.out, _, rfl, Hrow.out⟩
/-- A row behind a row, a nil one too. -/
theorem append_u {B : Nat} {w : World} {v : Value} {n : Nat} {xs : List Value} {ao : Option Addr} {M : List Int} {c : Nat} (h : w.ownsRow B 25 1 v n xs) (hB : B ≤ w.heap.size) (hn : n + M.length ≤ 1000000) (hM : URow w ao M) (hnil : ao = none → c = 0) :
    ∃ v' w', (Builtin.append_ #[22, 22] 22 #[v, .slice ao M.length c]).run Try.prog w = .ok v' w' ∧ w'.ownsRow B 25 1 v' (n + M.length) (xs ++ uvs M) ∧ w.grownBy w' v.ownBlock := by
  cases ao with
  | some a =>
    obtain ⟨v', w', h1, h2, h3, _⟩ := append25 c h hB hn (fun j x hj => by obtain ⟨_, e, h⟩ := hM j x hj; cases e; exact h)
    exact ⟨v', w', h1, h2, h3⟩
  | none =>
    have hM0 : M = [] := by
      cases M with
      | nil => rfl
      | cons x M => obtain ⟨_, e, _⟩ := hM 0 x rfl; cases e
    subst hM0
    obtain rfl := hnil rfl
    obtain ⟨i, hi, hz, hs, hb⟩ := info25_parts
    refine ⟨v, w, run_append_owned_none (P := Try.prog) (w := w) B 22 22 25 i 1 Try.underlying22 hi v n xs h, ?_, ⟨rfl, rfl, rfl, Nat.le_refl _, fun _ _ _ => rfl⟩⟩
    rw [show uvs [] = [] from rfl, List.append_nil]
    exact h
section
variable {ap al : Option Addr} {cp cl rb c : Nat} {P L : List Int} {w : World}
set_option maxRecDepth 100000 in
set_option maxHeartbeats 4000000 in
theorem concat_any (hl : P.length + L.length ≤ 10000) (h0 : 0 < L.length) (hP : URow w ap P) (hL : URow w al L) (hnp : ap = none → cp = 0) (hnl : al = none → cl = 0)
    (hb : w.heap[rb]? = some (.cells #[.slice ap P.length cp, .slice al L.length cl] 22 (0, 0))) :
    Calls Try.prog 147 #[.slice (some ⟨rb, 0, none⟩) 2 c] w fun e w' => Chg Nob w w' ∧ ∃ v, e = .returned v ∧ w'.ownsRow w.heap.size 25 1 v (P.length + L.length) (uvs (P ++ L)) := by
  have hg := ugrow_any (P.length + L.length) (by omega) hl w
  rw [Int.natCast_add] at hg
  obtain ⟨c0, c1, _⟩ := cell_two hb
  have HP := Lib.hid hP
  have HL := Lib.hid hL
  have Hnp := Lib.hid hnp
  have Hnl := Lib.hid hnl
  have Hb := Lib.hid hb
  have hpl : (P.length : Int) ≤ 10000 := by omega
  have hll : (L.length : Int) ≤ 10000 := by omega
  have hsum : ((P.length : Int) + (L.length : Int)) ≤ 10000 := by omega
  clear hP hL hnp hnl hb
  go_enter Try.func147, Try.ntmps147
  go_wp2_with fail
  refine wp_loop_rounds 3 ?_
  rw [rounds_succ]
  go_wp2_with fail
  rw [rounds_succ]
  go_wp2_with fail
  rw [rounds_succ]
  go_wp2_with fail
  (with_reducible refine hg.mono ?_)
  clear hg c0 c1
  rintro e w2 ⟨hc2, v, rfl, hrow⟩
  have hs2 := hc2.size
  have h1 := append_u (ao := ap) (M := P) (c := cp) hrow hs2 (by omega) (HP.out.nob hc2) Hnp.out
  obtain ⟨v3, h1⟩ := h1
  obtain ⟨w3, h1⟩ := h1
  have hrun3 := h1.1
  have hrow3 := h1.2.1
  have hgr3 := h1.2.2
  have hc3 : Chg Nob w w3 := hc2.trans (S' := fun b => v.ownBlock = some b) ((Chg.refl _ _).grown hgr3 (fun k e _ => e)) (fun i hi e => by have := (hrow.lt i e).1; omega)
  rw [Nat.zero_add, List.nil_append] at hrow3
  have hs3 := hc3.size
  have h2 := append_u (ao := al) (M := L) (c := cl) hrow3 hs3 (by omega) (HL.out.nob hc3) Hnl.out
  obtain ⟨v4, h2⟩ := h2
  obtain ⟨w4, h2⟩ := h2
  have hrun4 := h2.1
  have hrow4 := h2.2.1
  have hgr4 := h2.2.2
  have hc4 : Chg Nob w w4 := hc3.trans (S' := fun b => v3.ownBlock = some b) ((Chg.refl _ _).grown hgr4 (fun k e _ => e)) (fun i hi e => by have := (hrow3.lt i e).1; omega)
  have he : uvs P ++ uvs L = uvs (P ++ L) := by unfold uvs; rw [List.map_append]
  rw [he] at hrow4
  have Hrow4 := Lib.hid hrow4
  have Hc4 := Lib.hid hc4
  have Hrun3 := Lib.hid hrun3
  have Hrun4 := Lib.hid hrun4
  obtain ⟨c0, c1, _⟩ := cell_two (hc2.at Hb.out (fun e => e))
  obtain ⟨d0, d1, _⟩ := cell_two (hc3.at Hb.out (fun e => e))
  clear h1 h2 hrow hrow3 hrow4 hgr3 hgr4 hc2 hc3 hc4 hrun3 hrun4 he hs2 hs3
  go_wp2_with fail
  refine wp_loop_rounds 3 ?_
  rw [rounds_succ]
  go_wp2_with (refine wpList_append_known rfl _ _ 22 22 rfl _ _ rfl rfl _ w3 Hrun3.out ?_)
  rw [rounds_succ]
  go_wp2_with (refine wpList_append_known rfl _ _ 22 22 rfl _ _ rfl rfl _ w4 Hrun4.out ?_)
  rw [rounds_succ]
  go_wp2
  go_ret
  exact ⟨Hc4.out, _, rfl, Hrow4.out⟩
end
end Go.Proofs.Ytkgfdgfhpdhhaaa
