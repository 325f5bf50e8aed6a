/- The letters of a lasso, ranged over. Conditions: the rows lie in the world, they are short. -/
import Derived.Test.YtkgfdgfhpdhhaaaTabd
import Derived.Test.YtkgfdgfhpdhhaaaBack
namespace Go.Proofs.Ytkgfdgfhpdhhaaa
open Go.ChangeShapes Go.WideShapes Go.RowKit Go.Shelf

attribute [local go_sem] Oper.semAt_some

def ltr (M : List Int) (j : Nat) : Int := M[j]?.getD 0
theorem letters_any (v : Value) (a b : Value) (hv : v = .agg #[a, b]) (w : World) : Calls Try.prog 120 #[v] w fun e w' => e = .returned (.func (.func 146) #[] #[.pointer (some ⟨w.heap.size, 0, none⟩)]) ∧ w' = w.alloc (.cells #[a, b] 24) := by
  have hmf : ∀ (fn : Fn) (first cap : Array Value) (w : World), (Instr.makeFunc fn first cap).run Try.prog w = .ok (.func fn first cap) w := fun _ _ _ _ => rfl
  subst hv
  go_enter Try.func120, Try.ntmps120
  go_wp2
  go_ret
  exact ⟨rfl, rfl⟩
theorem range_pre {a b : Nat} (h : a ≤ b) : List.range a <+: List.range b := ⟨(List.range (b - a)).map (a + ·), by rw [← List.range_add, Nat.add_sub_cancel' h]⟩
theorem add_zero_off (g k : Nat) : (⟨g, 0, none⟩ : Addr).add k = ⟨g, k, none⟩ := by
  unfold Addr.add
  split
  · subst_vars; rfl
  · rw [Nat.zero_add]
set_option maxRecDepth 100000 in
set_option maxHeartbeats 4000000 in
theorem letters_iter (E : Nat → Prop) (n0 n : Nat) (hn : 1 ≤ n) (V0 : Nat → Prop) (bx : Nat) {ap al : Option Addr} {cp cl : Nat} {P L : List Int} (w : World) (hb : w.heap[bx]? = some (.cells #[.slice ap P.length cp, .slice al L.length cl] 24 (0, 0)))
    (hl : P.length + L.length ≤ 10000) (h0L : 0 < L.length) (hP : URow w ap P) (hL : URow w al L) (hnp : ap = none → cp = 0) (hnl : al = none → cl = 0) (hV : ∀ k, V0 k → k < w.heap.size) (hE : ¬ E 25) :
    Iter E n0 n 146 #[.pointer (some ⟨bx, 0, none⟩)] (fun (j : Nat) => #[.int .i64 (j : Int), .int .u64 (ltr (P ++ L) j)]) V0 (List.range (P.length + L.length)) w := by
  intro l J Jx W hcW hlo hlW hJ hJx hY h0
  obtain ⟨c0, c1, _⟩ := cell_two (hcW.at hb (fun e => e))
  obtain ⟨X, hX, hcX, hbX⟩ : ∃ X, X = W.alloc (.cells #[.slice ap P.length cp, .slice al L.length cl] 22) ∧ Chg Nob W X ∧ X.heap[W.heap.size]? = some (.cells #[.slice ap P.length cp, .slice al L.length cl] 22 (0, 0)) := ⟨_, rfl, (Chg.refl _ _).alloc _, heap_alloc_new _ _⟩
  have hcat := concat_any (w := X) (rb := W.heap.size) (c := 2) hl h0L (hP.nob (hcW.trans1 hcX)) (hL.nob (hcW.trans1 hcX)) hnp hnl hbX
  have hsX := hcX.size
  have HcX := Lib.hid hcX
  obtain ⟨M, hM⟩ : ∃ M, M = P ++ L := ⟨_, rfl⟩
  obtain ⟨m, hm⟩ : ∃ m, m = P.length + L.length := ⟨_, rfl⟩
  have hMl : M.length = m := by rw [hM, List.length_append, hm]
  rw [← hM] at hcat hY
  rw [← hm] at hcat hY ⊢
  have HMl := Lib.hid hMl
  have hm4 : m ≤ 10000 := by omega
  have HY := Lib.hid hY
  have HJ := Lib.hid hJ
  clear hY hJ hJx hP hL hnp hnl hb hcX hbX hM hMl hl hm
  refine callsIn_of_wp Try.func146 rfl trivial ?_ rfl
  simp only [Try.ntmps146, List.size_toArray, List.length_cons, List.length_nil, Nat.reduceAdd, Nat.reduceSub, Array.replicate_succ, Array.replicate_zero, List.push_toArray, List.append_toArray, List.nil_append, List.cons_append]
  gi_wp2
  rw [← hX]
  clear hX c0 c1
  refine ⟨trivial, (callsIn_wide.2 hcat).mono ?_⟩
  clear hcat
  rintro e w2 ⟨hc2, v, rfl, hrow⟩
  have hsh := ownsRow_shape hrow
  obtain ⟨ao, hsh⟩ := hsh
  obtain ⟨cc, hsh⟩ := hsh
  subst hsh
  have hJ2 := HJ.out [] W w2 h0 (Steps.nob (HcX.out.trans1 hc2))
  have Hrow := Lib.hid hrow
  have hmi : (m : Int) ≤ 10000 := by omega
  have hs2 := hc2.size
  clear h0 hrow hc2 HJ
  gi_wp2
  gi_loopw [3, 4, 12] (fun _ _ i wr => ∃ k : Nat, i = .int .i64 (k : Int) ∧ k ≤ m ∧ Hid (wr.ownsRow X.heap.size 25 1 (.slice ao m cc) m (uvs M)) ∧ J (List.range k) wr) (fun _ _ i _ => m - (intOf i).toNat)
  case atStart => exact ⟨0, rfl, Nat.zero_le _, Hrow.out, hJ2⟩
  case round =>
    obtain ⟨k, rfl, hk, hrow, hj⟩ := hrel
    by_cases hlt : k < m
    · have hki : (k : Int) < (m : Int) := by omega
      have hk0 : (0 : Int) ≤ (k : Int) := by omega
      obtain ⟨x, hx⟩ : ∃ x, M[k]? = some x := ⟨_, List.getElem?_eq_getElem (by rw [HMl.out]; exact hlt)⟩
      have hlx : ltr M k = x := by unfold ltr; rw [hx]; rfl
      obtain ⟨g, cap, hv, hc⟩ := ownsRow_some hrow.out (by omega)
      simp only [Value.slice.injEq] at hv
      obtain ⟨rfl, -, -⟩ := hv
      have ck := hc k (.int .u64 x) (by unfold uvs; rw [List.getElem?_map, hx]; rfl)
      rw [add_zero_off] at ck
      have hgb := (hrow.out.lt g rfl).1
      have hy := HY.out (List.range k) k wr hj (by rw [← List.range_succ]; exact range_pre hlt)
      obtain ⟨fn, tmps, assign, body, hyr, hR3⟩ := hy
      rw [hlx] at hyr
      have Hrow' := hrow
      clear hrow hc hx hlx
      gi_wp2
      refine hR3.mono ?_
      rintro e W3 (⟨rfl, hJ3, hks⟩ | ⟨rfl, hJx3, _⟩)
      · have Hrow3 : Hid (W3.ownsRow X.heap.size 25 1 (.slice (some ⟨g, 0, none⟩) m cc) m (uvs M)) := (show W3.ownsRow X.heap.size 25 1 (.slice (some ⟨g, 0, none⟩) m cc) m (uvs M) by
          refine ⟨Hrow'.out.1, ?_⟩
          rcases Hrow'.out.2 with ⟨h, _⟩ | ⟨g', cap', cur, he, hbg, hg, rest⟩
          · cases h
          · refine .inr ⟨g', cap', cur, he, hbg, hks.same _ _ hg (fun e => e.elim (fun e => by omega) (fun e => by have := hV _ e; have := hcW.size; omega)) ?_, rest⟩
            rintro ⟨_, cs, t, mm, e1, e2⟩
            cases e1
            exact hE e2)
        have hJ4 : J (List.range (k + 1)) W3 := by rw [List.range_succ]; exact hJ3
        gi_wp2
        go_roundw
        case rel => exact ⟨k + 1, by go_num, hlt, Hrow3, hJ4⟩
        case measure => simp [intOf]; omega
      · gi_wp2
        refine bodyPost_ret (results_none rfl _ _ _) rfl ?_
        exact ⟨⟨_, rfl⟩, .inr ⟨_, by rw [← List.range_succ]; exact range_pre hlt, hJx3⟩⟩
    · obtain rfl : k = m := by omega
      gi_wp2
      go_end0
      exact ⟨⟨_, rfl⟩, .inl hj⟩
end Go.Proofs.Ytkgfdgfhpdhhaaa
