/- The reference's text of a formula. Conditions: the tree lies in the world, it may be. -/
import Derived.Test.YtkgfdgfhpdhhaaaPick
import Derived.Test.YtkgfdgfhpdhhaaaLev
import Derived.Test.YtkgfdgfhpdhhaaaSize
namespace Go.Proofs.Ytkgfdgfhpdhhaaa
open Go.ChangeShapes Go.WideShapes Go.RowKit

set_option maxHeartbeats 1000000 in
theorem rlevel_any (k : Int) (w : World) : Calls Try.prog 102 #[.int .i64 k] w (Rets (.int .i64 (rankK k)) w) := by
  go_enter Try.func102, Try.ntmps102
  go_wp2
  all_goals go_ret
  all_goals (refine ⟨?_, rfl⟩; show Ending.returned (Value.int _ _) = Ending.returned (Value.int _ _); refine congrArg (fun q => Ending.returned (Value.int .i64 q)) ?_; unfold rankK; (try simp_all) <;> (repeat' split) <;> omega)

def TextC (t : T) : Prop := ∀ (R : Nat → Prop) (v : Value) (w : World), IsTree R w t v → (textT t).length ≤ 1000000000 → Calls Try.prog 59 #[v] w fun e w' => e = .returned (.string ⟨(textT t).toArray⟩) ∧ Chg Nob w w'
set_option maxRecDepth 100000 in
set_option maxHeartbeats 1000000 in
theorem rwithin_any {t : T} (hp : TextC t) (least : Int) (R : Nat → Prop) (v : Value) (w : World) (ht : IsTree R w t v) (hl : (textT t).length ≤ 1000000000) : Calls Try.prog 86 #[v, .int .i64 least] w fun e w' => e = .returned (.string ⟨(within t.kind least (textT t)).toArray⟩) ∧ Chg Nob w w' := by
  have Ht := Lib.hid ht
  obtain ⟨ao, cap, rfl, hlen, _⟩ := ht.parts
  have hcW : Chg Nob w (w.alloc (.cells #[.int .i64 t.kind, .string ⟨t.name.toArray⟩, .slice ao t.kids.length cap] 37)) := (Chg.refl _ _).alloc _
  have Hbox := Lib.hid (heap_alloc_new w (.cells #[.int .i64 t.kind, .string ⟨t.name.toArray⟩, .slice ao t.kids.length cap] 37))
  clear ht
  go_enter Try.func86, Try.ntmps86
  go_wp2_with fail
  generalize w.alloc (.cells #[.int .i64 t.kind, .string ⟨t.name.toArray⟩, .slice ao t.kids.length cap] 37) = W at *
  have hpp := hp R _ _ (Ht.out.nob hcW) hl
  (with_reducible refine hpp.mono ?_)
  clear hpp
  rintro e w1 ⟨rfl, hc1⟩
  obtain ⟨c0, c1, c2, _⟩ := cells_three (hc1.at Hbox.out (fun e => e))
  go_wp2_with fail
  (with_reducible refine (rlevel_any _ _).mono ?_)
  rintro e w2 ⟨rfl, rfl⟩
  by_cases hr : rankK t.kind < least
  · have Hr : Hid (within t.kind least (textT t) = [40] ++ textT t ++ [41]) := if_pos hr
    have hadd1 := add_list [40] (textT t) (by simp only [List.length_cons, List.length_nil]; omega)
    have hadd2 := add_list ([40] ++ textT t) [41] (by simp only [List.length_append, List.length_cons, List.length_nil]; omega)
    go_wp2
    go_ret
    exact ⟨by rw [Hr.out]; rfl, hcW.trans1 hc1⟩
  · have Hr : Hid (within t.kind least (textT t) = textT t) := if_neg hr
    go_wp2
    go_ret
    exact ⟨by rw [Hr.out]; rfl, hcW.trans1 hc1⟩

set_option maxRecDepth 100000 in
set_option maxHeartbeats 8000000 in
theorem rtext_any : ∀ t : T, mayT t = true → TextC t := by
  refine kid_induct ?_
  intro t ih hmay R v w ht hl
  obtain ⟨ao, cap, rfl, hlen, hkids⟩ := ht.parts
  obtain ⟨k, nm, kids⟩ := t
  simp only [T.kind, T.name, T.kids] at hlen hkids ih ⊢
  have htx : textT (.node k nm kids) = if k = 1 then [116, 114, 117, 101] else if k = 2 then [102, 97, 108, 115, 101] else if k = 3 then nm else textL k kids := by rw [textT]
  obtain ⟨W, hWe, hcW, hb⟩ : ∃ W, W = w.alloc (.cells #[.int .i64 k, .string ⟨nm.toArray⟩, .slice ao kids.length cap] 37) ∧ Chg Nob w W ∧ W.heap[w.heap.size]? = some (.cells #[.int .i64 k, .string ⟨nm.toArray⟩, .slice ao kids.length cap] 37 (0, 0)) := ⟨_, rfl, (Chg.refl _ _).alloc _, heap_alloc_new _ _⟩
  rcases may_shape hmay with ⟨hk, hn, hkd⟩ | ⟨hk, hn, hkd⟩ | ⟨hk, hn, a, hkd, hma⟩ | ⟨hk, hn, a, b, hkd, hma, hmb⟩
  all_goals simp only [T.kind, T.name, T.kids] at hk hn hkd
  all_goals subst hkd
  · subst hn
    simp only [List.length_nil] at hWe hb ⊢
    rcases hk with rfl | rfl
    all_goals
      simp only [reduceIte, Int.reduceEq] at htx
      have Hr := Lib.hid htx
      obtain ⟨c0, c1, c2, _⟩ := cells_three hb
      subst hWe
      clear htx hmay
      go_enter Try.func59, Try.ntmps59
      go_wp2_with fail
      go_ret
      exact ⟨by rw [Hr.out]; rfl, hcW⟩
  · subst hk
    simp only [reduceIte, Int.reduceEq] at htx
    have Hr := Lib.hid htx
    obtain ⟨c0, c1, c2, _⟩ := cells_three hb
    simp only [List.length_nil] at hWe hb c2 ⊢
    subst hWe
    clear htx hmay
    go_enter Try.func59, Try.ntmps59
    go_wp2_with fail
    go_ret
    exact ⟨by rw [Hr.out]; rfl, hcW⟩
  · subst hn
    obtain ⟨b1, o1, ak, capk, hao, hRb, p0, p1, p2, _, _, hta⟩ := hkids.kid (j := 0) (t := a) rfl
    subst hao
    rw [Nat.zero_mul, Nat.add_zero] at p0 p1 p2
    rw [if_neg (by omega), if_neg (by omega), if_neg (by omega), textL_one] at htx
    rw [htx] at hl
    simp only [List.length_append] at hl
    have hwa := (within_length a.kind 5 (textT a)).2
    have hcall := rwithin_any (ih a List.mem_cons_self hma) 5 R _ W (hta.nob hcW) (by omega)
    simp only [List.length_cons, List.length_nil, Nat.zero_add] at hWe hb ⊢
    have Hr := Lib.hid htx
    have hadd := add_list (preText k) (within a.kind 5 (textT a)) (by omega)
    obtain ⟨c0, c1, c2, _⟩ := cells_three hb
    have q0 := hcW.cell' p0 (fun e => e)
    have q1 := hcW.cell' p1 (fun e => e)
    have q2 := hcW.cell' p2 (fun e => e)
    subst hWe
    clear p0 p1 p2 hta htx hlen hmay ih hkids ht hb hl hwa
    have hk4 : k = 4 ∨ k = 5 ∨ k = 6 ∨ k = 7 := by omega
    clear hk
    rcases hk4 with rfl | rfl | rfl | rfl
    all_goals
      simp only [preText, reduceIte, Int.reduceEq] at hadd Hr
      go_enter Try.func59, Try.ntmps59
      go_wp2_with fail
      (with_reducible refine hcall.mono ?_)
      clear hcall
      rintro e w1 ⟨rfl, hc1⟩
      go_wp2
      go_ret
      exact ⟨by rw [Hr.out]; rfl, hcW.trans1 hc1⟩
  · subst hn
    obtain ⟨b1, o1, ak, capk, hao, hRb, p0, p1, p2, _, _, hta⟩ := hkids.kid (j := 0) (t := a) rfl
    obtain ⟨b2, o2, bk, bcapk, hao2, hRb2, q0, q1, q2, _, _, htb⟩ := hkids.kid (j := 1) (t := b) rfl
    subst hao
    cases hao2
    rw [Nat.zero_mul, Nat.add_zero] at p0 p1 p2
    rw [Nat.one_mul] at q0 q1 q2
    rw [if_neg (by omega), if_neg (by omega), if_neg (by omega), textL_two] at htx
    rw [htx] at hl
    simp only [List.length_append, List.length_cons, List.length_nil] at hl
    have hwa := (within_length a.kind (leftK k) (textT a)).2
    have hwb := (within_length b.kind (rightK k) (textT b)).2
    obtain ⟨x, hx⟩ : ∃ x, x = within a.kind (leftK k) (textT a) := ⟨_, rfl⟩
    obtain ⟨y, hy⟩ : ∃ y, y = within b.kind (rightK k) (textT b) := ⟨_, rfl⟩
    have hca : ∀ X, Chg Nob W X → Calls Try.prog 86 #[.agg #[.int .i64 a.kind, .string ⟨a.name.toArray⟩, .slice ak a.kids.length capk], .int .i64 (leftK k)] X fun e w' => e = .returned (.string ⟨x.toArray⟩) ∧ Chg Nob X w' := fun X hX => by
      rw [hx]; exact rwithin_any (ih a List.mem_cons_self hma) (leftK k) R _ X (hta.nob (hcW.trans1 hX)) (by omega)
    have hcb : ∀ X, Chg Nob W X → Calls Try.prog 86 #[.agg #[.int .i64 b.kind, .string ⟨b.name.toArray⟩, .slice bk b.kids.length bcapk], .int .i64 (rightK k)] X fun e w' => e = .returned (.string ⟨y.toArray⟩) ∧ Chg Nob X w' := fun X hX => by
      rw [hy]; exact rwithin_any (ih b (by simp) hmb) (rightK k) R _ X (htb.nob (hcW.trans1 hX)) (by omega)
    rw [← hx] at hl hwa htx
    rw [← hy] at hl hwb htx
    have hopl : (opText k).length ≤ 3 := by unfold opText; repeat' split
                                            all_goals decide
    have hadd1 := add_list x [32] (by simp only [List.length_cons, List.length_nil]; omega)
    have hadd2 := add_list (x ++ [32]) (opText k) (by simp only [List.length_append, List.length_cons, List.length_nil]; omega)
    have hadd3 := add_list (x ++ [32] ++ opText k) [32] (by simp only [List.length_append, List.length_cons, List.length_nil]; omega)
    have hadd4 := add_list (x ++ [32] ++ opText k ++ [32]) y (by simp only [List.length_append, List.length_cons, List.length_nil]; omega)
    have Hr : Hid (textT (.node k [] [a, b]) = x ++ [32] ++ opText k ++ [32] ++ y) := (show textT (.node k [] [a, b]) = x ++ [32] ++ opText k ++ [32] ++ y by rw [htx]; simp only [List.append_assoc])
    have Hca := Lib.hid (fun d os => regrown_chg (hca _ (Chg.of_below (below_regrown W d os))))
    have Hcb := Lib.hid (fun d os => regrown_chg (hcb _ (Chg.of_below (below_regrown W d os))))
    simp only [List.length_cons, List.length_nil, Nat.zero_add] at hWe hb ⊢
    obtain ⟨c0, c1, c2, _⟩ := cells_three hb
    have p0' := fun d os => cell_regrown (hcW.cell' p0 (fun e => e)) d os
    have p1' := fun d os => cell_regrown (hcW.cell' p1 (fun e => e)) d os
    have p2' := fun d os => cell_regrown (hcW.cell' p2 (fun e => e)) d os
    have q0' := fun d os => cell_regrown (hcW.cell' q0 (fun e => e)) d os
    have q1' := fun d os => cell_regrown (hcW.cell' q1 (fun e => e)) d os
    have q2' := fun d os => cell_regrown (hcW.cell' q2 (fun e => e)) d os
    have c2' := fun d os => cell_regrown c2 d os
    have hk7 : k = 8 ∨ k = 9 ∨ k = 10 ∨ k = 11 ∨ k = 12 ∨ k = 13 ∨ k = 14 := by omega
    subst hWe
    clear p0 p1 p2 q0 q1 q2 hta htb htx hlen hmay ih hkids ht hb hk hwa hwb hca hcb hx hy c1 c2 hopl hl
    rcases hk7 with rfl | rfl | rfl | rfl | rfl | rfl | rfl
    all_goals
      simp only [leftK, rightK, opText, reduceIte, Int.reduceEq, Int.reduceLE, and_self, and_true, List.append_assoc, List.cons_append, List.nil_append] at Hca Hcb hadd2 hadd3 hadd4 Hr
      go_enter Try.func59, Try.ntmps59
      go_wp2_with fail
      clear c0
      refine wp_region_quiet_below (by kernel_rfl) (by kernel_rfl) ?_
      repeat (go_big_quiet_step ((go_at_call 86; with_reducible (first | exact Hca.out _ _ | exact Hcb.out _ _))))
      refine wpQuiet_nil ?_
      intro _ hw'
      obtain ⟨⟨dq, osq⟩, hw''⟩ := hw'
      subst hw''
      go_wp2
      go_ret
      exact ⟨by rw [Hr.out]; rfl, hcW.trans1 (Chg.of_below (below_regrown _ dq osq))⟩
end Go.Proofs.Ytkgfdgfhpdhhaaa
