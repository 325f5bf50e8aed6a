/- The reference's Print. Condition: the tree lies in the world; it is not too great. -/
import Derived.Test.YtkgfdgfhpdhhaaaRtext
import Derived.Test.YtkgfdgfhpdhhaaaTi
namespace Go.Proofs.Ytkgfdgfhpdhhaaa
open Go.ChangeShapes Go.WideShapes Go.RowKit

set_option maxRecDepth 100000 in
set_option maxHeartbeats 2000000 in
theorem rprint_any {t : T} {v : Value} {w : World} (ht : TI w t v) (hN : sizeT t ≤ 1000000) : Calls Try.prog 31 #[v] w fun e w' => e = .returned (.tuple #[.string ⟨(printT t).toArray⟩, .int .i64 (printN t)]) ∧ Chg Nob w w' := by
  have Ht := Lib.hid ht
  obtain ⟨ao, cap, rfl⟩ := ht.agg
  clear ht
  obtain ⟨W, hWe, hcW, hsW, hb⟩ := box_one w (.int .i64 t.kind) (.string ⟨t.name.toArray⟩) (.slice ao t.kids.length cap)
  have Hb := Lib.hid hb
  have HtW := Lib.hid (Ht.out.nob hcW)
  clear hb hsW
  have hp := rcheck_any _ t _ W HtW.out hN
  go_enter Try.func31, Try.ntmps31
  go_wp2_with fail
  rw [← hWe]
  clear hWe
  (with_reducible refine hp.mono ?_)
  clear hp
  rintro e w1 ⟨rfl, hc1⟩
  have hcw1 := hcW.trans1 hc1
  rcases checkN_cases t with hk | hk
  · obtain ⟨c0, c1, c2, _⟩ := cells_three (hc1.at Hb.out (fun e => e))
    obtain ⟨hmay, _⟩ := checkN_zero hk
    obtain ⟨htl, htu⟩ := text_length t hmay
    have hp1 : printT t = if (textT t).length ≤ 4096 then textT t else [] := by
      unfold printT
      by_cases h : (textT t).length ≤ 4096
      · rw [if_pos ⟨hk, h⟩, if_pos h]
      · rw [if_neg (fun e => h e.2), if_neg h]
    have hp2 : printN t = if (textT t).length ≤ 4096 then 0 else 2 := by unfold printN; rw [if_pos hk]
    have HP := Lib.hid (And.intro hp1 hp2)
    have hp := rsize_any _ _ t (Nat.le_refl _) _ w1 (HtW.out.nob hc1)
    rw [hk]
    clear hk hp1 hp2
    go_wp2_with fail
    (with_reducible refine hp.mono ?_)
    clear hp c0 c1 c2
    rintro e w2 ⟨rfl, hc2⟩
    have hcw2 := hcw1.trans1 hc2
    by_cases hs : 4096 < sizeR t
    · have hsi : (4096 : Int) < (sizeR t : Int) := by omega
      have hlong : ¬ (textT t).length ≤ 4096 := by
        unfold sizeR at hs
        split at hs <;> omega
      have HP2 := Lib.hid (And.intro (HP.out.1.trans (if_neg hlong)) (HP.out.2.trans (if_neg hlong)))
      go_wp2
      go_ret2
      exact ⟨by rw [HP2.out.1, HP2.out.2]; rfl, hcw2⟩
    · have hsi : ¬ (4096 : Int) < (sizeR t : Int) := by omega
      obtain ⟨c0, c1, c2, _⟩ := cells_three ((hc1.trans1 hc2).at Hb.out (fun e => e))
      have hp := rtext_any t hmay _ _ w2 (HtW.out.nob (hc1.trans1 hc2)) (by omega)
      clear hmay
      go_wp2_with fail
      (with_reducible refine hp.mono ?_)
      clear hp c0 c1 c2
      rintro e w3 ⟨rfl, hc3⟩
      have hsz : (⟨(textT t).toArray⟩ : ByteArray).size = (textT t).length := by show (textT t).toArray.size = _; simp
      by_cases hlong : (textT t).length ≤ 4096
      · have hli : ¬ (4096 : Int) < ((textT t).length : Int) := by omega
        have HP2 := Lib.hid (And.intro (HP.out.1.trans (if_pos hlong)) (HP.out.2.trans (if_pos hlong)))
        go_wp2
        go_ret2
        exact ⟨by rw [HP2.out.1, HP2.out.2]; rfl, hcw2.trans1 hc3⟩
      · have hli : (4096 : Int) < ((textT t).length : Int) := by omega
        have HP2 := Lib.hid (And.intro (HP.out.1.trans (if_neg hlong)) (HP.out.2.trans (if_neg hlong)))
        go_wp2
        go_ret2
        exact ⟨by rw [HP2.out.1, HP2.out.2]; rfl, hcw2.trans1 hc3⟩
  · have hk0 : (checkN t == 0) = false := by rw [beq_eq_false_iff_ne]; omega
    have hk1 : (checkN t != 0) = true := by rw [bne, hk0]; rfl
    have hne : ¬ checkN t = 0 := by omega
    have HP2 : Hid (printT t = [] ∧ printN t = checkN t) := ⟨by unfold printT; rw [if_neg (fun e => hne e.1)], by unfold printN; rw [if_neg hne]⟩
    clear hk hne
    go_wp2
    go_ret2
    exact ⟨by rw [HP2.out.1, HP2.out.2]; rfl, hcw1⟩
end Go.Proofs.Ytkgfdgfhpdhhaaa
