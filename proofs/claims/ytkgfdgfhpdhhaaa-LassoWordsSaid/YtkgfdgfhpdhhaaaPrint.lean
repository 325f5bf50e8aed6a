/- ltl.Print: a formula's text. Condition: the tree lies in the world; it is not too great. -/
import Derived.Test.YtkgfdgfhpdhhaaaMade
import Derived.Test.YtkgfdgfhpdhhaaaPrt
namespace Go.Proofs.Ytkgfdgfhpdhhaaa
open Go.ChangeShapes Go.WideShapes Go.RowKit

/-- What is printed. -/
def printT (t : T) : List UInt8 := if checkN t = 0 ∧ (textT t).length ≤ 4096 then textT t else []
def printN (t : T) : Int := if checkN t = 0 then (if (textT t).length ≤ 4096 then 0 else 2) else checkN t
theorem checkN_zero {t : T} (h : checkN t = 0) : mayT t = true ∧ depthT t ≤ 100 := by
  unfold checkN at h
  split at h
  · cases h
  · rename_i h1
    split at h
    · cases h
    · rename_i h2
      exact ⟨by simpa using h1, by omega⟩
theorem checkN_cases (t : T) : checkN t = 0 ∨ checkN t = 92 ∨ checkN t = 93 := by
  unfold checkN
  split
  · exact .inr (.inl rfl)
  · split
    · exact .inr (.inr rfl)
    · exact .inl rfl

set_option maxRecDepth 100000 in
set_option maxHeartbeats 2000000 in
theorem Print_any (R : Nat → Prop) (t : T) (v : Value) (w : World) (ht : IsTree R w t v) (hN : sizeT t ≤ 1000000) (hR : ∀ b, R b → b < w.heap.size) :
    Calls Try.prog 32 #[v] w fun e w' => e = .returned (.tuple #[.string ⟨(printT t).toArray⟩, .int .i64 (printN t)]) ∧ Chg Nob w w' := by
  have Ht := Lib.hid ht
  obtain ⟨ao, cap, rfl, hlen, _⟩ := ht.parts
  clear ht
  go_enter Try.func32, Try.ntmps32
  go_wp2_with fail
  have hcW : Chg Nob w (w.alloc (.cells #[.int .i64 t.kind, .string ⟨t.name.toArray⟩, .slice ao t.kids.length cap] 37)) := (Chg.refl _ _).alloc _
  have hbox := heap_alloc_new w (.cells #[.int .i64 t.kind, .string ⟨t.name.toArray⟩, .slice ao t.kids.length cap] 37)
  have Hbox := Lib.hid hbox
  clear hbox
  generalize (w.alloc (.cells #[.int .i64 t.kind, .string ⟨t.name.toArray⟩, .slice ao t.kids.length cap] 37)) = W at *
  (with_reducible refine (check_any' R t _ W (Ht.out.nob hcW) hN (fun b hb => Nat.lt_of_lt_of_le (hR b hb) hcW.size)).mono ?_)
  rintro e w1 ⟨rfl, hc1⟩
  have hcw1 := hcW.trans1 hc1
  rcases checkN_cases t with hk | hk
  · have hp1 : printT t = if (textT t).length ≤ 4096 then textT t else [] := by
      unfold printT
      by_cases h : (textT t).length ≤ 4096
      · rw [if_pos ⟨hk, h⟩, if_pos h]
      · rw [if_neg (fun e => h e.2), if_neg h]
    have hp2 : printN t = if (textT t).length ≤ 4096 then 0 else 2 := by unfold printN; rw [if_pos hk]
    obtain ⟨hmay, _⟩ := checkN_zero hk
    have htl := text_length t hmay
    have HP := Lib.hid (And.intro hp1 hp2)
    have hb1 := hc1.at Hbox.out (fun e => e)
    have hbW := (Array.getElem?_eq_some_iff.1 hb1).1
    obtain ⟨c0, c1, c2, _⟩ := cells_three hb1
    have hnewb := heap_alloc_new w1 (.cells #[.pointer none, .slice none 0 0] 98)
    have hBd : Bd (w1.alloc (.cells #[.pointer none, .slice none 0 0] 98)) w1.heap.size w1.heap.size [] := ⟨⟨_, _, hnewb, .inl rfl, World.ownsRow_nil _ _ _ _⟩, by rw [World.size_alloc]; omega⟩
    have hcA : Chg Nob w1 (w1.alloc (.cells #[.pointer none, .slice none 0 0] 98)) := (Chg.refl _ _).alloc _
    have hpart := part_any t hmay R (w1.alloc (.cells #[.pointer none, .slice none 0 0] 98)) w1.heap.size w1.heap.size [] _ (Ht.out.nob (hcw1.trans1 hcA)) (fun b hb => by have := hR b hb; have := hcw1.size; omega) hBd (by simp only [List.length_nil]; omega)
    rw [hk]
    clear hk hp1 hp2 hb1 hnewb hBd
    have d0 := hcA.cell' c0 (fun e => e)
    have d1 := hcA.cell' c1 (fun e => e)
    have d2 := hcA.cell' c2 (fun e => e)
    clear c0 c1 c2
    go_wp2_with fail
    generalize w1.alloc (.cells #[.pointer none, .slice none 0 0] 98) = W1 at *
    (with_reducible refine hpart.mono ?_)
    clear hpart d0 d1 d2
    rintro e w2 ⟨rfl, l', hprt, hB2, hc2⟩
    have hcw2 : Chg Nob w w2 := Chg.trans (hcw1.trans1 hcA) hc2 (fun i hi e => by
      have := hcw1.size
      rcases e with e | ⟨e, _⟩ <;> omega)
    go_wp2_with fail
    (with_reducible refine (len_any _ _ _ _ hB2).mono ?_)
    rintro e w3 ⟨rfl, rfl⟩
    obtain ⟨q1, q2, q3⟩ := hprt
    rw [List.nil_append] at q3
    simp only [List.length_nil] at q1 q2
    by_cases hlong : (textT t).length ≤ 4096
    · have hl' : l' = textT t := by
        rcases q3 with q3 | ⟨_, q3⟩
        · exact q3
        · omega
      have HP2 := Lib.hid (And.intro (HP.out.1.trans (if_pos hlong)) (HP.out.2.trans (if_pos hlong)))
      subst hl'
      have hli : ¬ (4096 : Int) < ((textT t).length : Int) := by omega
      have hne : textT t ≠ [] := by intro e; rw [e] at htl; have := sizeT_pos t; simp at htl; omega
      clear q3
      go_wp2_with fail
      (with_reducible refine (string_any _ _ _ _ hB2 hne).mono ?_)
      rintro e w4 ⟨rfl, hc4⟩
      have hcw4 : Chg Nob w w4 := Chg.trans hcw2 hc4 (fun i hi e => by
        have := hcw1.size
        rcases e with e | ⟨e, _⟩ <;> omega)
      clear hne
      go_wp2
      go_ret2
      exact ⟨by rw [HP2.out.1, HP2.out.2]; rfl, hcw4⟩
    · have HP2 := Lib.hid (And.intro (HP.out.1.trans (if_neg hlong)) (HP.out.2.trans (if_neg hlong)))
      have hlb : 4096 < l'.length := by
        rcases q3 with q3 | ⟨q3, _⟩
        · rw [q3]; omega
        · exact q3
      have hli : (4096 : Int) < (l'.length : Int) := by omega
      clear q3
      go_wp2
      go_ret2
      exact ⟨by rw [HP2.out.1, HP2.out.2]; rfl, hcw2⟩
  · have hk0 : (checkN t == 0) = false := by rw [beq_eq_false_iff_ne]; omega
    have hk1 : (checkN t != 0) = true := by rw [bne, hk0]; rfl
    have hne : ¬ checkN t = 0 := by omega
    have HP2 : Hid (printT t = [] ∧ printN t = checkN t) := ⟨by unfold printT; rw [if_neg (fun e => hne e.1)], by unfold printN; rw [if_neg hne]⟩
    clear hk hne
    go_wp2
    go_ret2
    exact ⟨by rw [HP2.out.1, HP2.out.2]; rfl, hcw1⟩
end Go.Proofs.Ytkgfdgfhpdhhaaa
