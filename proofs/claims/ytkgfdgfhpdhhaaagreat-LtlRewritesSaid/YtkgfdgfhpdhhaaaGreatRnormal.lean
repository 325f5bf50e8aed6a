/- The reference's Normal: a formula's normal form, or why it has none. Condition: the formula lies in the world, it is not too great. -/
import Derived.Test.YtkgfdgfhpdhhaaaGreatRcols
import Derived.Test.YtkgfdgfhpdhhaaaGreatRcount
namespace Go.Proofs.YtkgfdgfhpdhhaaaGreat
open Go.ChangeShapes Go.WideShapes Go.RowKit

theorem results33 {B : Nat} {tm : Array Value} {w : World} {a0 a1 a2 : Value} {n : Int} (h2 : tm[2]? = some (.pointer (some ⟨B, 0, none⟩))) (h3 : tm[3]? = some (.int .i64 n)) (hb : w.heap[B]? = some (.cells #[a0, a1, a2] 24 (0, 0))) :
    (results Tryz.f16 tm).run Tryz.prog w = .ok (.tuple #[.agg #[a0, a1, a2], .int .i64 n]) w := by
  obtain ⟨c0, c1, c2, _⟩ := cells_three hb
  simp [results, Tryz.results16, go_sem, h2, h3, c0, c1, c2]
theorem fin33 {t : T} {w X : World} {tm : Array Value} {n : Int} {x y z : Value} {k : Int} {nm : ByteArray} {ao : Option Addr} {len cap : Nat} (hn : n = normN t) (hc : Chg Nob w X) (hb : X.heap[w.heap.size + 1]? = some (.cells #[x, y, z] 24 (0, 0))) (hF : Fresh (Ge (w.heap.size + 2)) X (normT t) (.agg #[.int .i64 k, .string nm, .slice ao len cap]))
    (h2 : tm[2]? = some (.pointer (some ⟨w.heap.size + 1, 0, none⟩))) (h3 : tm[3]? = some (.int .i64 n)) :
    bodyPost Tryz.prog Tryz.f16 (NormPost t w) Exit.ret { tmps := tm, defers := [] } (((X.setCell ⟨w.heap.size + 1, 0, none⟩ (.int .i64 k)).setCell ⟨w.heap.size + 1, 1, none⟩ (.string nm)).setCell ⟨w.heap.size + 1, 2, none⟩ (.slice ao len cap)) := by
  have k3 := chg_three X (w.heap.size + 1) (.int .i64 k) (.string nm) (.slice ao len cap)
  refine bodyPost_ret (results33 h2 h3 (block_three_all hb _ _ _)) rfl ⟨hc.trans k3 (fun i hi e => by have e : i = w.heap.size + 1 := e; omega), _, hF.chg k3 (fun b hb _ e => by have e : b = w.heap.size + 1 := e; unfold Ge at hb; omega) (fun b hb => by unfold Ge at hb ⊢; omega), by rw [hn]⟩
set_option maxRecDepth 100000 in
set_option maxHeartbeats 8000000 in
theorem RNormal_any {t : T} {v : Value} {w : World} (ht : TI w t v) (hN : sizeT t ≤ 1000000) : Calls Tryz.prog 16 #[v] w (NormPost t w) := by
  obtain ⟨ao, cap, rfl⟩ := ht.agg
  obtain ⟨X, hX, hcX, hsX, hb0, hb1⟩ := box_kid w (.int .i64 t.kind) (.string ⟨t.name.toArray⟩) (.slice ao t.kids.length cap) (.int .i64 0) (.string ⟨#[]⟩) (.slice none 0 0)
  obtain ⟨c0, c1, c2, _⟩ := cells_three hb0
  rw [hX] at c0 c1 c2
  have HtX := Lib.hid (ht.nob hcX)
  have Hb0 := Lib.hid hb0
  have Hb1 := Lib.hid hb1
  have HcX := Lib.hid hcX
  have hp := rcheck_any _ t _ X HtX.out hN
  clear ht hb0 hb1 hcX hsX
  go_enter Tryz.func16, Tryz.ntmps16
  go_wp2_with fail
  rw [← hX]
  clear hX
  (with_reducible refine hp.mono ?_)
  clear hp c0 c1 c2
  rintro e w1 ⟨rfl, hc1⟩
  obtain ⟨n, hn⟩ : ∃ n, n = checkN t := ⟨_, rfl⟩
  rw [← hn]
  have Hn := Lib.hid hn
  have Hc1 := Lib.hid (HcX.out.trans1 hc1)
  have Hb01 := Lib.hid (hc1.at Hb0.out (fun e => e))
  have Hb11 := Lib.hid (hc1.at Hb1.out (fun e => e))
  have Ht1 := Lib.hid (HtX.out.nob hc1)
  clear hn hc1 Hb0 Hb1 HcX HtX
  obtain ⟨c0, c1, c2, _⟩ := cells_three Hb01.out
  obtain ⟨d0, d1, d2, f0, f1, f2⟩ := cells_three Hb11.out
  cases h0 : (n == 0) with
  | false =>
    have hne : (n != 0) = true := by rw [bne, h0]; rfl
    have hnn : normN t = n := by
      unfold normN
      rw [if_neg (by rw [← Hn.out]; exact beq_eq_false_iff_ne.1 h0), Hn.out]
    have hnt : normT t = .node 0 [] [] := by
      unfold normT
      rw [if_neg (by rw [hnn]; exact beq_eq_false_iff_ne.1 h0)]
    have Hnn := Lib.hid hnn
    have Hnt := Lib.hid hnt
    clear hnn hnt h0
    go_wp2
    exact fin33 Hnn.out.symm Hc1.out Hb11.out (by rw [Hnt.out]; exact leafF _ _ 0 []) rfl rfl
  | true =>
    have hne : (n != 0) = false := by rw [bne, h0]; rfl
    have hck : checkN t = 0 := by rw [← Hn.out]; exact beq_iff_eq.1 h0
    obtain rfl : n = 0 := beq_iff_eq.1 h0
    obtain ⟨hm, _⟩ := checkN_zero hck
    have Hck := Lib.hid hck
    have hcount := count_any t hm _ w1 Ht1.out
    have Hcol := Lib.hid (columns_any t hm)
    obtain ⟨x, hx⟩ : ∃ x, x = cntT t false := ⟨_, rfl⟩
    obtain ⟨y, hy⟩ : ∃ y, y = cntT t true := ⟨_, rfl⟩
    rw [← hx, ← hy] at hcount
    have Hx := Lib.hid hx
    clear hck hx hy h0 hne Hn hm
    go_wp2_with fail
    (with_reducible refine hcount.mono ?_)
    clear hcount c0 c1 c2 d0 d1 d2 f0 f1 f2
    rintro e w2 ⟨rfl, hc2⟩
    have Hc2 := Lib.hid (Hc1.out.trans1 hc2)
    have Hb02 := Lib.hid (hc2.at Hb01.out (fun e => e))
    have Hb12 := Lib.hid (hc2.at Hb11.out (fun e => e))
    have Ht2 := Lib.hid (Ht1.out.nob hc2)
    clear hc2 Hc1 Hb01 Hb11 Ht1
    obtain ⟨c0, c1, c2, _⟩ := cells_three Hb02.out
    obtain ⟨d0, d1, d2, f0, f1, f2⟩ := cells_three Hb12.out
    by_cases hbig : 20000 < x
    · have hnn : normN t = 2 := by
        unfold normN
        rw [if_pos Hck.out, if_neg]
        intro hle
        have := Hx.out
        unfold cntT capI at this
        rw [if_neg (by omega)] at this
        omega
      have hnt : normT t = .node 0 [] [] := by
        unfold normT
        rw [if_neg (by rw [hnn]; omega)]
      have Hnn := Lib.hid hnn
      have Hnt := Lib.hid hnt
      clear hnn hnt
      go_wp2
      exact fin33 Hnn.out.symm Hc2.out Hb12.out (by rw [Hnt.out]; exact leafF _ _ 0 []) rfl rfl
    · have hnn : normN t = 0 := by
        unfold normN
        rw [if_pos Hck.out, if_pos]
        have := Hx.out
        unfold cntT capI at this
        split at this <;> omega
      have hnt : normT t = nfT t false := by
        unfold normT
        rw [if_pos hnn]
      have Hnn := Lib.hid hnn
      have Hnt := Lib.hid hnt
      clear hnn hnt
      have hcol := Hcol.out _ w2 Ht2.out
      go_wp2_with fail
      (with_reducible refine hcol.mono ?_)
      clear hcol c0 c1 c2 d0 d1 d2 f0 f1 f2
      rintro e w3 ⟨hc3, u, u', rfl, hF1, hF2⟩
      obtain ⟨Y, hY, hcY, hsY, hy0, hy1⟩ := box_kid w3 (.int .i64 u.k) (.string u.nm) (.slice u.ao u.len u.cap) (.int .i64 u'.k) (.string u'.nm) (.slice u'.ao u'.len u'.cap)
      have hlo : w.heap.size + 2 ≤ w2.heap.size := by
        have h1 := (Array.getElem?_eq_some_iff.1 Hb12.out).1
        omega
      have hlo3 : w.heap.size + 1 < w3.heap.size := by have := hc3.size; omega
      have HY := Lib.hid (hc3.trans1 hcY)
      have Hb1Y := Lib.hid (HY.out.at Hb12.out (fun e => e))
      have HFY : Hid (Fresh (Ge (w.heap.size + 2)) Y (normT t) (.agg #[.int .i64 u.k, .string u.nm, .slice u.ao u.len u.cap])) := (show Fresh (Ge (w.heap.size + 2)) Y (normT t) (.agg #[.int .i64 u.k, .string u.nm, .slice u.ao u.len u.cap]) by
        rw [Hnt.out]
        exact hF1.chg hcY (fun _ _ _ e => e) (fun b hb => Nat.le_trans hlo hb))
      obtain ⟨c0, c1, c2, _⟩ := cells_three hy0
      obtain ⟨d0, d1, d2, f0, f1, f2⟩ := cells_three Hb1Y.out
      rw [hY] at c0 c1 c2 d0 d1 d2 f0 f1 f2
      clear hF1 hF2 hc3 hy0 hy1 hcY hsY
      go_wp2
      rw [← hY]
      exact fin33 Hnn.out.symm (Hc2.out.trans1 HY.out) Hb1Y.out HFY.out rfl rfl
end Go.Proofs.YtkgfdgfhpdhhaaaGreat
