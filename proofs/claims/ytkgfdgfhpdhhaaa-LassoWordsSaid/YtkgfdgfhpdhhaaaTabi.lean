/- What is wrong with what a table is asked. Conditions: the formula and the names lie in the world, the formula is not too great. -/
import Derived.Test.YtkgfdgfhpdhhaaaTabh
import Derived.Test.YtkgfdgfhpdhhaaaPnames
import Derived.Test.YtkgfdgfhpdhhaaaMade
namespace Go.Proofs.Ytkgfdgfhpdhhaaa
open Go.ChangeShapes Go.WideShapes Go.RowKit Go.Shelf

attribute [local go_sem] Oper.semAt_some

def namesOk (names : List (List UInt8)) : Prop := ∀ j, j < names.length → nameB (names.getD j []) = true ∧ names.getD j [] ∉ names.take j
instance (names : List (List UInt8)) : Decidable (namesOk names) := Nat.decidableBallLT _ _
def checkedN (t : T) (names : List (List UInt8)) (np nl : Nat) : Int :=
  if checkN t ≠ 0 then checkN t else if 20000 < sizeT t then 2 else if 60 < names.length then 1 else if ¬ namesOk names then 1 else if ¬ (∀ x ∈ namesT t, x ∈ names) then 94 else lcheckN np nl
theorem box_tw (w : World) (a b c d e : Value) : ∃ X, X = (w.alloc (.cells #[a, b, c] 37)).alloc (.cells #[d, e] 24) ∧ Chg Nob w X ∧ X.heap[w.heap.size]? = some (.cells #[a, b, c] 37 (0, 0)) ∧ X.heap[w.heap.size + 1]? = some (.cells #[d, e] 24 (0, 0)) ∧ X.heap.size = w.heap.size + 2 := by
  have h1 := heap_alloc_new (w.alloc (.cells #[a, b, c] 37)) (.cells #[d, e] 24)
  rw [World.size_alloc] at h1
  exact ⟨_, rfl, ((Chg.refl _ _).alloc _).alloc _, ((Chg.refl Nob _).alloc _).at (heap_alloc_new w _) (fun e => e), h1, by rw [World.size_alloc, World.size_alloc]⟩
theorem Texts.take {w : World} {b o : Nat} {n c : Nat} {names : List (List UInt8)} (h : Texts w (.slice (some ⟨b, o, none⟩) n c) names) (j m : Nat) (hj : j ≤ names.length) : Texts w (.slice (some ⟨b, o, none⟩) j m) (names.take j) := by
  obtain ⟨a0, cp0, e0, l0, h0⟩ := h
  refine ⟨some ⟨b, o, none⟩, m, by rw [List.length_take, Nat.min_eq_left hj], by rw [List.length_take]; omega, fun i x hi => ?_⟩
  have hi' : names[i]? = some x := by
    rw [List.getElem?_take] at hi
    split at hi
    · exact hi
    · cases hi
  obtain ⟨b1, o1, e1, h1⟩ := h0 i x hi'
  cases e0
  exact ⟨b1, o1, e1, h1⟩
section
variable {R : Nat → Prop} {t : T} {v : Value} {w : World} {names : List (List UInt8)} {an ap al : Option Addr} {cn np cp nl cl : Nat}
set_option maxRecDepth 100000 in
set_option maxHeartbeats 8000000 in
theorem checked_any (ht : IsTree R w t v) (hN : sizeT t ≤ 1000000) (hR : ∀ b, R b → b < w.heap.size) (hn : Texts w (.slice an names.length cn) names) (hcn : names.length ≤ cn) (hl : np + nl ≤ 10000) :
    Calls Try.prog 99 #[v, .slice an names.length cn, .agg #[.slice ap np cp, .slice al nl cl]] w fun e w' => e = .returned (.int .i64 (checkedN t names np nl)) ∧ Chg Nob w w' := by
  obtain ⟨ao, cap, rfl, hlen, _⟩ := ht.parts
  obtain ⟨X, hX, hcX, hb0, hb1, hsX⟩ := box_tw w (.int .i64 t.kind) (.string ⟨t.name.toArray⟩) (.slice ao t.kids.length cap) (.slice ap np cp) (.slice al nl cl)
  obtain ⟨c0, c1, c2, _⟩ := cells_three hb0
  obtain ⟨d0, d1, _⟩ := cell_two hb1
  rw [hX] at c0 c1 c2
  have hp : ∀ W, Chg Nob X W → Calls Try.prog 37 #[.agg #[.int .i64 t.kind, .string ⟨t.name.toArray⟩, .slice ao t.kids.length cap]] W fun e w' => e = .returned (.int .i64 (checkN t)) ∧ Chg Nob W w' := fun W hW => check_any' R t _ W (ht.nob (hcX.trans1 hW)) hN (fun b hb => by have := hR b hb; have := hcX.size; have := hW.size; omega)
  have hp2 : ∀ W, Chg Nob X W → Calls Try.prog 56 #[.agg #[.int .i64 t.kind, .string ⟨t.name.toArray⟩, .slice ao t.kids.length cap]] W fun e w' => e = .returned (.int .i64 (min (sizeT t) 20001 : Nat)) ∧ Chg Nob W w' := fun W hW => size_any R t _ W (ht.nob (hcX.trans1 hW)) hN (fun b hb => by have := hR b hb; have := hcX.size; have := hW.size; omega)
  have hp3 : ∀ W, Chg Nob X W → Calls Try.prog 55 #[.agg #[.int .i64 t.kind, .string ⟨t.name.toArray⟩, .slice ao t.kids.length cap]] W (NamesPost t W) := fun W hW => names_any R t _ W (ht.nob (hcX.trans1 hW)) hN (fun b hb => by have := hR b hb; have := hcX.size; have := hW.size; omega)
  have HcX := Lib.hid hcX
  have Hb0 := Lib.hid hb0
  have Hb1 := Lib.hid hb1
  have HsX := Lib.hid hsX
  have Hp := Lib.hid hp
  have Hp2 := Lib.hid hp2
  have Hp3 := Lib.hid hp3
  have Hn := Lib.hid (hn.nob hcX)
  clear ht hR hn hcX hb0 hb1 hsX hp hp2 hp3 hN
  go_enter Try.func99, Try.ntmps99
  go_wp2_with fail
  rw [← hX]
  clear hX c0 c1 c2 d0 d1
  (with_reducible refine (Hp.out X (Chg.refl _ _)).mono ?_)
  rintro e w1 ⟨rfl, hc1⟩
  have Hc1 := Lib.hid hc1
  clear hc1 Hp
  by_cases h0 : checkN t = 0
  · have h0b : (checkN t != 0) = false := by simp [h0]
    obtain ⟨c0, c1, c2, _⟩ := cells_three (Hc1.out.at Hb0.out (fun e => e))
    go_wp2_with fail
    (with_reducible refine (Hp2.out w1 Hc1.out).mono ?_)
    rintro e w2 ⟨rfl, hc2⟩
    have Hc2 : Hid (Chg Nob X w2) := (show Chg Nob X w2 from Hc1.out.trans1 hc2)
    clear hc2 Hp2 Hc1 c0 c1 c2
    obtain ⟨m, hm⟩ : ∃ m, m = min (sizeT t) 20001 := ⟨_, rfl⟩
    rw [← hm]
    by_cases h1 : 20000 < sizeT t
    · have Hr : Hid (checkedN t names np nl = 2) := (show checkedN t names np nl = 2 by unfold checkedN; rw [if_neg (by simp [h0]), if_pos h1])
      have hmi : (20000 : Int) < (m : Int) := by omega
      clear h0 h1 hm
      go_wp2_with fail
      go_ret
      exact ⟨by rw [Hr.out]; rfl, HcX.out.trans1 Hc2.out⟩
    · have hmi : ¬ (20000 : Int) < (m : Int) := by omega
      have hmd : decide ((20000 : Int) < (m : Int)) = false := by simpa using hmi
      have H1 := Lib.hid h1
      clear h1 hm
      by_cases h2 : 60 < names.length
      · have Hr : Hid (checkedN t names np nl = 1) := (show checkedN t names np nl = 1 by unfold checkedN; rw [if_neg (by simp [h0]), if_neg H1.out, if_pos h2])
        have h2i : (60 : Int) < (names.length : Int) := by omega
        clear h0
        go_wp2_with fail
        go_ret
        exact ⟨by rw [Hr.out]; rfl, HcX.out.trans1 Hc2.out⟩
      · have h2i : ¬ (60 : Int) < (names.length : Int) := by omega
        have h2d : decide ((60 : Int) < (names.length : Int)) = false := by simpa using h2i
        have H2 := Lib.hid h2
        have H0 := Lib.hid h0
        clear h0
        go_wp2_with fail
        go_loopw [25] (fun iv wr => ∃ i : Nat, iv = .int .i64 (i : Int) ∧ i ≤ names.length ∧ Hid (∀ j, j < i → nameB (names.getD j []) = true ∧ names.getD j [] ∉ names.take j) ∧ Hid (Chg Nob X wr)) (fun iv _ => names.length - (intOf iv).toNat)
        case atStart => exact ⟨0, rfl, Nat.zero_le _, (by show ∀ j, j < 0 → _; intro j hj; omega), Hc2⟩
        case round =>
          obtain ⟨i, rfl, hi, Hok, Hc⟩ := hrel
          by_cases hlt : i < names.length
          · obtain ⟨x, hx⟩ : ∃ x, names[i]? = some x := ⟨_, List.getElem?_eq_getElem hlt⟩
            have hxd : names.getD i [] = x := by rw [List.getD_eq_getElem?_getD, hx]; rfl
            have Hxd := Lib.hid hxd
            obtain ⟨a0, cp0, e0, l0, h00⟩ := Hn.out
            cases e0
            obtain ⟨b, o, rfl, hcell⟩ := h00 i x hx
            clear h00
            have hii : (i : Int) < (names.length : Int) := by omega
            have hi0 : (0 : Int) ≤ (i : Int) := by omega
            have hcell2 := Hc.out.cell' hcell (fun e => e)
            have hic : (i : Int) ≤ (cn : Int) := by omega
            have hpn : Calls Try.prog 96 #[.string ⟨x.toArray⟩] wr fun e w' => e = .returned (.bool (nameB x)) ∧ Chg Nob wr w' := isname_any x wr
            clear hcell hx hxd
            go_wp2_with fail
            (with_reducible refine hpn.mono ?_)
            clear hpn hcell2
            rintro e w3 ⟨rfl, hc3⟩
            have Hc3 : Hid (Chg Nob X w3) := (show Chg Nob X w3 from Hc.out.trans1 hc3)
            clear hc3
            cases hnb : nameB x with
            | false =>
              have Hr : Hid (checkedN t names np nl = 1) := (show checkedN t names np nl = 1 by
                unfold checkedN
                rw [if_neg (by simp [H0.out]), if_neg H1.out, if_neg H2.out, if_pos]
                intro hall
                have := (hall i hlt).1
                rw [Hxd.out, hnb] at this
                exact absurd this (by decide))
              go_wp2_with fail
              go_ret
              exact ⟨by rw [Hr.out]; rfl, HcX.out.trans1 Hc3.out⟩
            | true =>
              have hpc : ∀ m, Calls Try.prog 115 #[.slice (some ⟨b, o, none⟩) i m, .string ⟨x.toArray⟩] w3 (Rets (.bool (decide (x ∈ names.take i))) w3) := fun m => contains_any _ _ x w3 ((Texts.take Hn.out i m hi).nob Hc3.out)
              go_wp2_with fail
              (with_reducible refine (hpc _).mono ?_)
              clear hpc
              rintro e w4 ⟨rfl, rfl⟩
              cases hd : decide (x ∈ names.take i) with
              | true =>
                have Hr : Hid (checkedN t names np nl = 1) := (show checkedN t names np nl = 1 by
                  unfold checkedN
                  rw [if_neg (by simp [H0.out]), if_neg H1.out, if_neg H2.out, if_pos]
                  intro hall
                  have := (hall i hlt).2
                  rw [Hxd.out] at this
                  exact this (of_decide_eq_true hd))
                go_wp2_with fail
                go_ret
                exact ⟨by rw [Hr.out]; rfl, HcX.out.trans1 Hc3.out⟩
              | false =>
                have Hok2 : Hid (∀ j, j < i + 1 → nameB (names.getD j []) = true ∧ names.getD j [] ∉ names.take j) := (show ∀ j, j < i + 1 → nameB (names.getD j []) = true ∧ names.getD j [] ∉ names.take j by
                  intro j hj
                  by_cases hji : j = i
                  · subst hji
                    rw [Hxd.out]
                    exact ⟨hnb, of_decide_eq_false hd⟩
                  · exact Hok.out j (by omega))
                go_wp2_with fail
                go_roundw
                case rel => exact ⟨i + 1, by go_num, by omega, Hok2, Hc3⟩
                case measure => simp [intOf]; omega
          · obtain rfl : i = names.length := by omega
            have H3 : Hid (namesOk names) := Hok.out
            obtain ⟨c0, c1, c2, _⟩ := cells_three (Hc.out.at Hb0.out (fun e => e))
            go_wp2_with fail
            (with_reducible refine (Hp3.out wr Hc.out).mono ?_)
            rintro e w3 ⟨hc3, sl, rfl, ts⟩
            obtain ⟨a9, c9, rfl, ls, hts⟩ := ts
            have Hc3 : Hid (Chg Nob X w3) := (show Chg Nob X w3 from Hc.out.trans1 hc3)
            have Hts := Lib.hid hts
            clear hc3 Hp3 c0 c1 c2 hts Hok
            go_wp2_with fail
            go_loopw [44] (fun iv wk => ∃ k : Nat, iv = .int .i64 (k : Int) ∧ k ≤ (namesT t).length ∧ Hid (∀ j x, j < k → (namesT t)[j]? = some x → x ∈ names) ∧ Hid (Chg Nob w3 wk)) (fun iv _ => (namesT t).length - (intOf iv).toNat)
            case atStart => exact ⟨0, rfl, Nat.zero_le _, (by show ∀ j x, j < 0 → _; intro j x hj; omega), Chg.refl _ _⟩
            case round =>
              obtain ⟨k, rfl, hk, Hin, Hk⟩ := hrel
              by_cases hkl : k < (namesT t).length
              · obtain ⟨x, hx⟩ : ∃ x, (namesT t)[k]? = some x := ⟨_, List.getElem?_eq_getElem hkl⟩
                obtain ⟨b, o, rfl, hcell⟩ := Hts.out k x hx
                have hki : (k : Int) < ((namesT t).length : Int) := by omega
                have hk0 : (0 : Int) ≤ (k : Int) := by omega
                have hcell2 := Hk.out.cell' hcell (fun e => e)
                have hpc : Calls Try.prog 115 #[.slice an names.length cn, .string ⟨x.toArray⟩] wr (Rets (.bool (decide (x ∈ names))) wr) := contains_any _ _ x wr ((Hn.out.nob Hc3.out).nob Hk.out)
                have Hx := Lib.hid hx
                clear hcell hx
                go_wp2_with fail
                (with_reducible refine hpc.mono ?_)
                clear hpc hcell2
                rintro e w4 ⟨rfl, rfl⟩
                cases hd : decide (x ∈ names) with
                | false =>
                  have Hr : Hid (checkedN t names np nl = 94) := (show checkedN t names np nl = 94 by
                    unfold checkedN
                    rw [if_neg (by simp [H0.out]), if_neg H1.out, if_neg H2.out, if_neg (fun h => h H3.out), if_pos]
                    exact fun hall => of_decide_eq_false hd (hall x (List.mem_of_getElem? Hx.out)))
                  go_wp2_with fail
                  go_ret
                  exact ⟨by rw [Hr.out]; rfl, (HcX.out.trans1 Hc3.out).trans1 Hk.out⟩
                | true =>
                  have Hin2 : Hid (∀ j x, j < k + 1 → (namesT t)[j]? = some x → x ∈ names) := (show ∀ j x, j < k + 1 → (namesT t)[j]? = some x → x ∈ names by
                    intro j y hj hy
                    by_cases hjk : j = k
                    · subst hjk
                      rw [Hx.out] at hy
                      cases hy
                      exact of_decide_eq_true hd
                    · exact Hin.out j y (by omega) hy)
                  go_wp2_with fail
                  go_roundw
                  case rel => exact ⟨k + 1, by go_num, by omega, Hin2, Hk⟩
                  case measure => simp [intOf]; omega
              · obtain rfl : k = (namesT t).length := by omega
                have Hr : Hid (checkedN t names np nl = lcheckN np nl) := (show checkedN t names np nl = lcheckN np nl by
                  unfold checkedN
                  rw [if_neg (by simp [H0.out]), if_neg H1.out, if_neg H2.out, if_neg (fun h => h H3.out), if_neg]
                  intro hno
                  apply hno
                  intro x hx
                  obtain ⟨j, hj, rfl⟩ := List.mem_iff_getElem.1 hx
                  exact Hin.out j _ hj (List.getElem?_eq_getElem hj))
                have hck := lcheck_any (cp := cp) (cl := cl) (ap := ap) (al := al) (w := wr) np nl hl
                have Hck : Hid (Chg Nob X wr) := (show Chg Nob X wr from Hc3.out.trans1 Hk.out)
                obtain ⟨d0, d1, _⟩ := cell_two (Hck.out.at Hb1.out (fun e => e))
                go_wp2_with fail
                (with_reducible refine hck.mono ?_)
                clear hck
                rintro e w4 ⟨rfl, hc4⟩
                go_wp2_with fail
                go_ret
                exact ⟨by rw [Hr.out]; rfl, (HcX.out.trans1 Hck.out).trans1 hc4⟩
  · have Hr : Hid (checkedN t names np nl = checkN t) := (show checkedN t names np nl = checkN t from if_pos h0)
    have h0b : (checkN t != 0) = true := by simpa using h0
    go_wp2_with fail
    go_ret
    exact ⟨by rw [Hr.out]; rfl, HcX.out.trans1 Hc1.out⟩
end
end Go.Proofs.Ytkgfdgfhpdhhaaa
