/- The reference's count of a normal form's parts. Condition: the formula may be. -/
import Derived.Test.YtkgfdgfhpdhhaaaGreatTi
import Derived.Test.YtkgfdgfhpdhhaaaGreatLev
namespace Go.Proofs.YtkgfdgfhpdhhaaaGreat
open Go.ChangeShapes Go.WideShapes Go.RowKit

def capI (n : Int) : Int := if 20000 < n then 20001 else n
def cntT (t : T) (no : Bool) : Int := capI (sizeT (nfT t no) : Int)
theorem cnt_le (t : T) (no : Bool) : 1 ≤ cntT t no ∧ cntT t no ≤ 20001 := by
  have := sizeT_pos (nfT t no)
  unfold cntT capI
  split <;> omega
theorem cnt_leaf {k : Int} (h : k = 1 ∨ k = 2) (no : Bool) : cntT (.node k [] []) no = 1 := by
  unfold cntT capI
  rw [nf_leaf' k no h, sizeT, sizeL]; rfl
theorem cnt_name (n : List UInt8) (no : Bool) : cntT (.node 3 n []) no = if no then 2 else 1 := by
  unfold cntT
  rw [nf_name']
  cases no
  · have e : sizeT (if false = true then T.node 4 [] [.node 3 n []] else T.node 3 n []) = 1 := by show sizeT (T.node 3 n []) = 1; rw [sizeT, sizeL]
    rw [e]; rfl
  · have e : sizeT (if true = true then T.node 4 [] [.node 3 n []] else T.node 3 n []) = 2 := by show sizeT (T.node 4 [] [.node 3 n []]) = 2; rw [sizeT, sizeL, sizeL, sizeT, sizeL]
    rw [e]; rfl
theorem nf_one6 (k : Int) (a : T) (no : Bool) (h : k = 6 ∨ k = 7) : sizeT (nfT (.node k [] [a]) no) = 2 + sizeT (nfT a no) := by
  rw [nfT_eq]
  show sizeT (if k = 1 ∨ k = 2 then _ else if k = 3 then _ else nfL k [a] no) = _
  rw [if_neg (by omega), if_neg (by omega), nfL_one]
  rcases h with rfl | rfl
  · rw [if_neg (by omega), if_neg (by omega), if_pos rfl, sizeT, sizeL, sizeL, sizeL, sizeT, sizeL]; omega
  · rw [if_neg (by omega), if_neg (by omega), if_neg (by omega), sizeT, sizeL, sizeL, sizeL, sizeT, sizeL]; omega
theorem nf_impl (a b : T) (no : Bool) : sizeT (nfT (.node 10 [] [a, b]) no) = 1 + (sizeT (nfT a (!no)) + sizeT (nfT b no)) := by
  rw [nfT_eq]
  show sizeT (nfL 10 [a, b] no) = _
  rw [nfL_two, if_pos rfl, sizeT, sizeL, sizeL, sizeL]; rfl
theorem nf_iff (a b : T) (no : Bool) : sizeT (nfT (.node 11 [] [a, b]) no) = 3 + (sizeT (nfT a false) + sizeT (nfT a true) + sizeT (nfT b false) + sizeT (nfT b true)) := by
  rw [nfT_eq]
  show sizeT (nfL 11 [a, b] no) = _
  rw [nfL_two, if_neg (by omega), if_pos rfl, sizeT, sizeL, sizeL, sizeL, sizeT, sizeL, sizeL, sizeL, sizeT, sizeL, sizeL, sizeL]
  cases no <;> simp only [Bool.not_false, Bool.not_true] <;> omega
theorem nf_weak (a b : T) (no : Bool) : sizeT (nfT (.node 14 [] [a, b]) no) = 2 + (sizeT (nfT a no) + 2 * sizeT (nfT b no)) := by
  rw [nfT_eq]
  show sizeT (nfL 14 [a, b] no) = _
  rw [nfL_two, if_neg (by omega), if_neg (by omega), if_pos rfl, sizeT, sizeL, sizeL, sizeL, sizeT, sizeL, sizeL, sizeL]; omega
theorem nf_plain2 (k : Int) (a b : T) (no : Bool) (h : k = 8 ∨ k = 9 ∨ k = 12 ∨ k = 13) : sizeT (nfT (.node k [] [a, b]) no) = 1 + (sizeT (nfT a no) + sizeT (nfT b no)) := by
  rw [nf_two' k a b no h, sizeT, sizeL, sizeL, sizeL]; rfl
theorem cnt_not (a : T) (no : Bool) : cntT (.node 4 [] [a]) no = cntT a (!no) := by
  unfold cntT; rw [nf_not']
theorem cnt_next (a : T) (no : Bool) : cntT (.node 5 [] [a]) no = capI (cntT a no + 1) := by
  unfold cntT; rw [nf_next', sizeT, sizeL, sizeL]
  unfold capI; repeat' split
  all_goals omega
theorem cnt_one6 (k : Int) (a : T) (no : Bool) (h : k = 6 ∨ k = 7) : cntT (.node k [] [a]) no = capI (cntT a no + 2) := by
  unfold cntT; rw [nf_one6 k a no h]
  unfold capI; repeat' split
  all_goals omega
theorem cnt_two (k : Int) (a b : T) (no : Bool) (h : k = 8 ∨ k = 9 ∨ k = 12 ∨ k = 13) : cntT (.node k [] [a, b]) no = capI (cntT a no + cntT b no + 1) := by
  unfold cntT; rw [nf_plain2 k a b no h]
  unfold capI; repeat' split
  all_goals omega
theorem cnt_impl (a b : T) (no : Bool) : cntT (.node 10 [] [a, b]) no = capI (cntT a (!no) + cntT b no + 1) := by
  unfold cntT; rw [nf_impl]
  unfold capI; repeat' split
  all_goals omega
theorem cnt_iff (a b : T) (no : Bool) : cntT (.node 11 [] [a, b]) no = capI (cntT a false + cntT a true + cntT b false + cntT b true + 3) := by
  have h1 := sizeT_pos (nfT a false)
  have h2 := sizeT_pos (nfT a true)
  have h3 := sizeT_pos (nfT b false)
  have h4 := sizeT_pos (nfT b true)
  unfold cntT; rw [nf_iff]
  unfold capI; repeat' split
  all_goals omega
theorem cnt_weak (a b : T) (no : Bool) : cntT (.node 14 [] [a, b]) no = capI (cntT a no + 2 * cntT b no + 2) := by
  unfold cntT; rw [nf_weak]
  unfold capI; repeat' split
  all_goals omega
theorem ints2 {a b c d : Int} (h : a = c) (h2 : b = d) : Ending.returned (.tuple #[.int .i64 a, .int .i64 b]) = .returned (.tuple #[.int .i64 c, .int .i64 d]) := by rw [h, h2]

set_option maxRecDepth 100000 in
set_option maxHeartbeats 16000000 in
theorem count_any : ∀ t : T, mayT t = true → ∀ (v : Value) (w : World), TI w t v → Calls Tryz.prog 49 #[v] w fun e w' => e = .returned (.tuple #[.int .i64 (cntT t false), .int .i64 (cntT t true)]) ∧ Chg Nob w w' := by
  refine kid_induct ?_
  intro t ih hmay v w ht
  obtain ⟨ao, cap, rfl, hlen, hkids⟩ := ht.parts
  obtain ⟨k, nm, kids⟩ := t
  simp only [T.kind, T.name, T.kids] at hlen hkids ih ⊢
  obtain ⟨W, hWe, hcW, hsW, hb⟩ := box_one w (.int .i64 k) (.string ⟨nm.toArray⟩) (.slice ao kids.length cap)
  have htW := ht.nob hcW
  rcases may_shape hmay with ⟨hk, hn, hkd⟩ | ⟨hk, hn, hkd⟩ | ⟨hk, hn, a, hkd, hma⟩ | ⟨hk, hn, a, b, hkd, hma, hmb⟩
  all_goals simp only [T.kind, T.name, T.kids] at hk hn hkd
  all_goals subst hkd
  · subst hn
    have Hr := Lib.hid (And.intro (cnt_leaf hk false) (cnt_leaf hk true))
    obtain ⟨c0, c1, c2, _⟩ := cells_three hb
    simp only [List.length_nil] at hWe c2 ⊢
    rw [hWe] at c0 c1 c2
    clear hmay ih ht htW hkids hb
    rcases hk with rfl | rfl
    all_goals
      go_enter Tryz.func49, Tryz.ntmps49
      go_wp2
      go_ret2
      exact ⟨by rw [Hr.out.1, Hr.out.2]; rfl, hWe ▸ hcW⟩
  · subst hk
    have Hr := Lib.hid (And.intro (cnt_name nm false) (cnt_name nm true))
    obtain ⟨c0, c1, c2, _⟩ := cells_three hb
    simp only [List.length_nil] at hWe c2 ⊢
    rw [hWe] at c0 c1 c2
    clear hmay ih ht htW hkids hb hn
    go_enter Tryz.func49, Tryz.ntmps49
    go_wp2
    go_ret2
    exact ⟨by rw [Hr.out.1, Hr.out.2]; rfl, hWe ▸ hcW⟩
  · subst hn
    obtain ⟨b1, o1, ak, capk, hao, hRb, p0, p1, p2, _, _, hta⟩ := hkids.kid (j := 0) (t := a) rfl
    subst hao
    rw [Nat.zero_mul, Nat.add_zero] at p0 p1 p2
    have hcall := ih a List.mem_cons_self hma _ W (IsTree.nob hta hcW |> IsTree.mono (fun _ _ _ h => h) (fun b hb => Nat.lt_of_lt_of_le hb hcW.size) _ _)
    have Hle := Lib.hid (And.intro (cnt_le a false) (cnt_le a true))
    obtain ⟨c0, c1, c2, _⟩ := cells_three hb
    have q0 := hcW.cell' p0 (fun e => e)
    have q1 := hcW.cell' p1 (fun e => e)
    have q2 := hcW.cell' p2 (fun e => e)
    simp only [List.length_cons, List.length_nil, Nat.zero_add] at hWe c2 ⊢
    obtain ⟨x, hx⟩ : ∃ x, x = cntT a false := ⟨_, rfl⟩
    obtain ⟨y, hy⟩ : ∃ y, y = cntT a true := ⟨_, rfl⟩
    have hk4 : k = 4 ∨ k = 5 ∨ k = 6 ∨ k = 7 := by omega
    clear hk
    obtain ⟨⟨hx1, hx2⟩, ⟨hy1, hy2⟩⟩ := Hle.out
    rw [← hx] at hx1 hx2
    rw [← hy] at hy1 hy2
    rw [← hx, ← hy] at hcall
    subst hWe
    clear p0 p1 p2 hta hlen hmay ih hkids ht hb htW hRb
    rcases hk4 with rfl | rfl | rfl | rfl
    · have Hr : Hid (cntT (.node 4 [] [a]) false = y ∧ cntT (.node 4 [] [a]) true = x) := by
        have h1 := cnt_not a false
        have h2 := cnt_not a true
        first | rw [Bool.not_false] at h1 | skip
        first | rw [Bool.not_true] at h2 | skip
        rw [h1, h2, hx, hy]
        exact ⟨rfl, rfl⟩
      clear hx hy
      go_enter Tryz.func49, Tryz.ntmps49
      go_wp2_with fail
      (with_reducible refine hcall.mono ?_)
      clear hcall
      rintro e w1 ⟨rfl, hc1⟩
      go_wp2
      all_goals
        go_ret2
        refine ⟨?_, hcW.trans1 hc1⟩
        rw [Hr.out.1, Hr.out.2]
        refine ints2 ?_ ?_
        all_goals (try unfold capI)
        all_goals (try split)
        all_goals omega
    · have Hr : Hid (cntT (.node 5 [] [a]) false = capI (x + 1) ∧ cntT (.node 5 [] [a]) true = capI (y + 1)) := by
        have h1 := cnt_next a false
        have h2 := cnt_next a true
        first | rw [Bool.not_false] at h1 | skip
        first | rw [Bool.not_true] at h2 | skip
        rw [h1, h2, hx, hy]
        exact ⟨rfl, rfl⟩
      clear hx hy
      go_enter Tryz.func49, Tryz.ntmps49
      go_wp2_with fail
      (with_reducible refine hcall.mono ?_)
      clear hcall
      rintro e w1 ⟨rfl, hc1⟩
      go_wp2
      all_goals
        go_ret2
        refine ⟨?_, hcW.trans1 hc1⟩
        rw [Hr.out.1, Hr.out.2]
        refine ints2 ?_ ?_
        all_goals (try unfold capI)
        all_goals (try split)
        all_goals omega
    · have Hr : Hid (cntT (.node 6 [] [a]) false = capI (x + 2) ∧ cntT (.node 6 [] [a]) true = capI (y + 2)) := by
        have h1 := cnt_one6 6 a false (by omega)
        have h2 := cnt_one6 6 a true (by omega)
        first | rw [Bool.not_false] at h1 | skip
        first | rw [Bool.not_true] at h2 | skip
        rw [h1, h2, hx, hy]
        exact ⟨rfl, rfl⟩
      clear hx hy
      go_enter Tryz.func49, Tryz.ntmps49
      go_wp2_with fail
      (with_reducible refine hcall.mono ?_)
      clear hcall
      rintro e w1 ⟨rfl, hc1⟩
      go_wp2
      all_goals
        go_ret2
        refine ⟨?_, hcW.trans1 hc1⟩
        rw [Hr.out.1, Hr.out.2]
        refine ints2 ?_ ?_
        all_goals (try unfold capI)
        all_goals (try split)
        all_goals omega
    · have Hr : Hid (cntT (.node 7 [] [a]) false = capI (x + 2) ∧ cntT (.node 7 [] [a]) true = capI (y + 2)) := by
        have h1 := cnt_one6 7 a false (by omega)
        have h2 := cnt_one6 7 a true (by omega)
        first | rw [Bool.not_false] at h1 | skip
        first | rw [Bool.not_true] at h2 | skip
        rw [h1, h2, hx, hy]
        exact ⟨rfl, rfl⟩
      clear hx hy
      go_enter Tryz.func49, Tryz.ntmps49
      go_wp2_with fail
      (with_reducible refine hcall.mono ?_)
      clear hcall
      rintro e w1 ⟨rfl, hc1⟩
      go_wp2
      all_goals
        go_ret2
        refine ⟨?_, hcW.trans1 hc1⟩
        rw [Hr.out.1, Hr.out.2]
        refine ints2 ?_ ?_
        all_goals (try unfold capI)
        all_goals (try split)
        all_goals omega
  · subst hn
    obtain ⟨b1, o1, ak, capk, hao, hRb, p0, p1, p2, _, _, hta⟩ := hkids.kid (j := 0) (t := a) rfl
    obtain ⟨b2, o2, bk, bcapk, hao2, hRb2, q0, q1, q2, _, _, htb⟩ := hkids.kid (j := 1) (t := b) rfl
    subst hao
    cases hao2
    rw [Nat.zero_mul, Nat.add_zero] at p0 p1 p2
    rw [Nat.one_mul] at q0 q1 q2
    have hca : ∀ X, Chg Nob W X → Calls Tryz.prog 49 #[.agg #[.int .i64 a.kind, .string ⟨a.name.toArray⟩, .slice ak a.kids.length capk]] X fun e w' => e = .returned (.tuple #[.int .i64 (cntT a false), .int .i64 (cntT a true)]) ∧ Chg Nob X w' := fun X hX =>
      ih a List.mem_cons_self hma _ X (IsTree.nob hta (hcW.trans1 hX) |> IsTree.mono (fun _ _ _ h => h) (fun b hb => Nat.lt_of_lt_of_le hb (hcW.trans1 hX).size) _ _)
    have hcb : ∀ X, Chg Nob W X → Calls Tryz.prog 49 #[.agg #[.int .i64 b.kind, .string ⟨b.name.toArray⟩, .slice bk b.kids.length bcapk]] X fun e w' => e = .returned (.tuple #[.int .i64 (cntT b false), .int .i64 (cntT b true)]) ∧ Chg Nob X w' := fun X hX =>
      ih b (by simp) hmb _ X (IsTree.nob htb (hcW.trans1 hX) |> IsTree.mono (fun _ _ _ h => h) (fun b hb => Nat.lt_of_lt_of_le hb (hcW.trans1 hX).size) _ _)
    obtain ⟨hx1, hx2⟩ := cnt_le a false
    obtain ⟨hy1, hy2⟩ := cnt_le a true
    obtain ⟨hz1, hz2⟩ := cnt_le b false
    obtain ⟨hu1, hu2⟩ := cnt_le b true
    simp only [List.length_cons, List.length_nil, Nat.zero_add] at hWe hb ⊢
    obtain ⟨x, hx⟩ : ∃ x, x = cntT a false := ⟨_, rfl⟩
    obtain ⟨y, hy⟩ : ∃ y, y = cntT a true := ⟨_, rfl⟩
    obtain ⟨z, hz⟩ : ∃ z, z = cntT b false := ⟨_, rfl⟩
    obtain ⟨u, hu⟩ : ∃ u, u = cntT b true := ⟨_, rfl⟩
    rw [← hx] at hx1 hx2
    rw [← hy] at hy1 hy2
    rw [← hz] at hz1 hz2
    rw [← hu] at hu1 hu2
    rw [← hx, ← hy] at hca
    rw [← hz, ← hu] at hcb
    have HP := Lib.hid (And.intro p0 (And.intro p1 p2))
    have HQ := Lib.hid (And.intro q0 (And.intro q1 q2))
    have Hb := Lib.hid hb
    have HcW := Lib.hid hcW
    have Hca := Lib.hid hca
    have Hcb := Lib.hid hcb
    have hk7 : k = 8 ∨ k = 9 ∨ k = 10 ∨ k = 11 ∨ k = 12 ∨ k = 13 ∨ k = 14 := by omega
    clear p0 p1 p2 q0 q1 q2 hta htb hlen hmay ih hkids ht hb htW hRb hRb2 hca hcb hcW hk hsW
    rcases hk7 with rfl | rfl | rfl | rfl | rfl | rfl | rfl
    · have Hr : Hid (cntT (.node 8 [] [a, b]) false = capI (x + z + 1) ∧ cntT (.node 8 [] [a, b]) true = capI (y + u + 1)) := by
        have h1 := cnt_two 8 a b false (by omega)
        have h2 := cnt_two 8 a b true (by omega)
        first | rw [Bool.not_false] at h1 | skip
        first | rw [Bool.not_true] at h2 | skip
        rw [h1, h2, hx, hy, hz, hu]
        exact ⟨rfl, rfl⟩
      clear hx hy hz hu
      obtain ⟨c0, c1, c2, _⟩ := cells_three Hb.out
      obtain ⟨p0, p1, p2⟩ := HP.out
      obtain ⟨p0, p1, p2⟩ := And.intro (HcW.out.cell' p0 (fun e => e)) (And.intro (HcW.out.cell' p1 (fun e => e)) (HcW.out.cell' p2 (fun e => e)))
      rw [hWe] at c0 c1 c2 p0 p1 p2
      go_enter Tryz.func49, Tryz.ntmps49
      go_wp2_with fail
      rw [← hWe]
      have hcall := Hca.out _ (Chg.refl _ _)
      (with_reducible refine hcall.mono ?_)
      clear hcall c0 c1 c2 p0 p1 p2
      rintro e w1 ⟨rfl, hc1⟩
      obtain ⟨c0, c1, c2, _⟩ := cells_three (hc1.at Hb.out (fun e => e))
      obtain ⟨q0, q1, q2⟩ := HQ.out
      obtain ⟨q0, q1, q2⟩ := And.intro ((HcW.out.trans1 hc1).cell' q0 (fun e => e)) (And.intro ((HcW.out.trans1 hc1).cell' q1 (fun e => e)) ((HcW.out.trans1 hc1).cell' q2 (fun e => e)))
      go_wp2_with fail
      have hcall := Hcb.out _ hc1
      (with_reducible refine hcall.mono ?_)
      clear hcall c0 c1 c2 q0 q1 q2
      rintro e w2 ⟨rfl, hc2⟩
      have hcw2 := HcW.out.trans1 (hc1.trans1 hc2)
      go_wp2
      all_goals
        go_ret2
        refine ⟨?_, hcw2⟩
        rw [Hr.out.1, Hr.out.2]
        refine ints2 ?_ ?_
        all_goals (try unfold capI)
        all_goals (try split)
        all_goals omega
    · have Hr : Hid (cntT (.node 9 [] [a, b]) false = capI (x + z + 1) ∧ cntT (.node 9 [] [a, b]) true = capI (y + u + 1)) := by
        have h1 := cnt_two 9 a b false (by omega)
        have h2 := cnt_two 9 a b true (by omega)
        first | rw [Bool.not_false] at h1 | skip
        first | rw [Bool.not_true] at h2 | skip
        rw [h1, h2, hx, hy, hz, hu]
        exact ⟨rfl, rfl⟩
      clear hx hy hz hu
      obtain ⟨c0, c1, c2, _⟩ := cells_three Hb.out
      obtain ⟨p0, p1, p2⟩ := HP.out
      obtain ⟨p0, p1, p2⟩ := And.intro (HcW.out.cell' p0 (fun e => e)) (And.intro (HcW.out.cell' p1 (fun e => e)) (HcW.out.cell' p2 (fun e => e)))
      rw [hWe] at c0 c1 c2 p0 p1 p2
      go_enter Tryz.func49, Tryz.ntmps49
      go_wp2_with fail
      rw [← hWe]
      have hcall := Hca.out _ (Chg.refl _ _)
      (with_reducible refine hcall.mono ?_)
      clear hcall c0 c1 c2 p0 p1 p2
      rintro e w1 ⟨rfl, hc1⟩
      obtain ⟨c0, c1, c2, _⟩ := cells_three (hc1.at Hb.out (fun e => e))
      obtain ⟨q0, q1, q2⟩ := HQ.out
      obtain ⟨q0, q1, q2⟩ := And.intro ((HcW.out.trans1 hc1).cell' q0 (fun e => e)) (And.intro ((HcW.out.trans1 hc1).cell' q1 (fun e => e)) ((HcW.out.trans1 hc1).cell' q2 (fun e => e)))
      go_wp2_with fail
      have hcall := Hcb.out _ hc1
      (with_reducible refine hcall.mono ?_)
      clear hcall c0 c1 c2 q0 q1 q2
      rintro e w2 ⟨rfl, hc2⟩
      have hcw2 := HcW.out.trans1 (hc1.trans1 hc2)
      go_wp2
      all_goals
        go_ret2
        refine ⟨?_, hcw2⟩
        rw [Hr.out.1, Hr.out.2]
        refine ints2 ?_ ?_
        all_goals (try unfold capI)
        all_goals (try split)
        all_goals omega
    · have Hr : Hid (cntT (.node 10 [] [a, b]) false = capI (y + z + 1) ∧ cntT (.node 10 [] [a, b]) true = capI (x + u + 1)) := by
        have h1 := cnt_impl a b false
        have h2 := cnt_impl a b true
        first | rw [Bool.not_false] at h1 | skip
        first | rw [Bool.not_true] at h2 | skip
        rw [h1, h2, hx, hy, hz, hu]
        exact ⟨rfl, rfl⟩
      clear hx hy hz hu
      obtain ⟨c0, c1, c2, _⟩ := cells_three Hb.out
      obtain ⟨p0, p1, p2⟩ := HP.out
      obtain ⟨p0, p1, p2⟩ := And.intro (HcW.out.cell' p0 (fun e => e)) (And.intro (HcW.out.cell' p1 (fun e => e)) (HcW.out.cell' p2 (fun e => e)))
      rw [hWe] at c0 c1 c2 p0 p1 p2
      go_enter Tryz.func49, Tryz.ntmps49
      go_wp2_with fail
      rw [← hWe]
      have hcall := Hca.out _ (Chg.refl _ _)
      (with_reducible refine hcall.mono ?_)
      clear hcall c0 c1 c2 p0 p1 p2
      rintro e w1 ⟨rfl, hc1⟩
      obtain ⟨c0, c1, c2, _⟩ := cells_three (hc1.at Hb.out (fun e => e))
      obtain ⟨q0, q1, q2⟩ := HQ.out
      obtain ⟨q0, q1, q2⟩ := And.intro ((HcW.out.trans1 hc1).cell' q0 (fun e => e)) (And.intro ((HcW.out.trans1 hc1).cell' q1 (fun e => e)) ((HcW.out.trans1 hc1).cell' q2 (fun e => e)))
      go_wp2_with fail
      have hcall := Hcb.out _ hc1
      (with_reducible refine hcall.mono ?_)
      clear hcall c0 c1 c2 q0 q1 q2
      rintro e w2 ⟨rfl, hc2⟩
      have hcw2 := HcW.out.trans1 (hc1.trans1 hc2)
      go_wp2
      all_goals
        go_ret2
        refine ⟨?_, hcw2⟩
        rw [Hr.out.1, Hr.out.2]
        refine ints2 ?_ ?_
        all_goals (try unfold capI)
        all_goals (try split)
        all_goals omega
    · have Hr : Hid (cntT (.node 11 [] [a, b]) false = capI (x + y + z + u + 3) ∧ cntT (.node 11 [] [a, b]) true = capI (x + y + z + u + 3)) := by
        have h1 := cnt_iff a b false
        have h2 := cnt_iff a b true
        first | rw [Bool.not_false] at h1 | skip
        first | rw [Bool.not_true] at h2 | skip
        rw [h1, h2, hx, hy, hz, hu]
        exact ⟨rfl, rfl⟩
      clear hx hy hz hu
      obtain ⟨c0, c1, c2, _⟩ := cells_three Hb.out
      obtain ⟨p0, p1, p2⟩ := HP.out
      obtain ⟨p0, p1, p2⟩ := And.intro (HcW.out.cell' p0 (fun e => e)) (And.intro (HcW.out.cell' p1 (fun e => e)) (HcW.out.cell' p2 (fun e => e)))
      rw [hWe] at c0 c1 c2 p0 p1 p2
      go_enter Tryz.func49, Tryz.ntmps49
      go_wp2_with fail
      rw [← hWe]
      have hcall := Hca.out _ (Chg.refl _ _)
      (with_reducible refine hcall.mono ?_)
      clear hcall c0 c1 c2 p0 p1 p2
      rintro e w1 ⟨rfl, hc1⟩
      obtain ⟨c0, c1, c2, _⟩ := cells_three (hc1.at Hb.out (fun e => e))
      obtain ⟨q0, q1, q2⟩ := HQ.out
      obtain ⟨q0, q1, q2⟩ := And.intro ((HcW.out.trans1 hc1).cell' q0 (fun e => e)) (And.intro ((HcW.out.trans1 hc1).cell' q1 (fun e => e)) ((HcW.out.trans1 hc1).cell' q2 (fun e => e)))
      go_wp2_with fail
      have hcall := Hcb.out _ hc1
      (with_reducible refine hcall.mono ?_)
      clear hcall c0 c1 c2 q0 q1 q2
      rintro e w2 ⟨rfl, hc2⟩
      have hcw2 := HcW.out.trans1 (hc1.trans1 hc2)
      go_wp2
      all_goals
        go_ret2
        refine ⟨?_, hcw2⟩
        rw [Hr.out.1, Hr.out.2]
        refine ints2 ?_ ?_
        all_goals (try unfold capI)
        all_goals (try split)
        all_goals omega
    · have Hr : Hid (cntT (.node 12 [] [a, b]) false = capI (x + z + 1) ∧ cntT (.node 12 [] [a, b]) true = capI (y + u + 1)) := by
        have h1 := cnt_two 12 a b false (by omega)
        have h2 := cnt_two 12 a b true (by omega)
        first | rw [Bool.not_false] at h1 | skip
        first | rw [Bool.not_true] at h2 | skip
        rw [h1, h2, hx, hy, hz, hu]
        exact ⟨rfl, rfl⟩
      clear hx hy hz hu
      obtain ⟨c0, c1, c2, _⟩ := cells_three Hb.out
      obtain ⟨p0, p1, p2⟩ := HP.out
      obtain ⟨p0, p1, p2⟩ := And.intro (HcW.out.cell' p0 (fun e => e)) (And.intro (HcW.out.cell' p1 (fun e => e)) (HcW.out.cell' p2 (fun e => e)))
      rw [hWe] at c0 c1 c2 p0 p1 p2
      go_enter Tryz.func49, Tryz.ntmps49
      go_wp2_with fail
      rw [← hWe]
      have hcall := Hca.out _ (Chg.refl _ _)
      (with_reducible refine hcall.mono ?_)
      clear hcall c0 c1 c2 p0 p1 p2
      rintro e w1 ⟨rfl, hc1⟩
      obtain ⟨c0, c1, c2, _⟩ := cells_three (hc1.at Hb.out (fun e => e))
      obtain ⟨q0, q1, q2⟩ := HQ.out
      obtain ⟨q0, q1, q2⟩ := And.intro ((HcW.out.trans1 hc1).cell' q0 (fun e => e)) (And.intro ((HcW.out.trans1 hc1).cell' q1 (fun e => e)) ((HcW.out.trans1 hc1).cell' q2 (fun e => e)))
      go_wp2_with fail
      have hcall := Hcb.out _ hc1
      (with_reducible refine hcall.mono ?_)
      clear hcall c0 c1 c2 q0 q1 q2
      rintro e w2 ⟨rfl, hc2⟩
      have hcw2 := HcW.out.trans1 (hc1.trans1 hc2)
      go_wp2
      all_goals
        go_ret2
        refine ⟨?_, hcw2⟩
        rw [Hr.out.1, Hr.out.2]
        refine ints2 ?_ ?_
        all_goals (try unfold capI)
        all_goals (try split)
        all_goals omega
    · have Hr : Hid (cntT (.node 13 [] [a, b]) false = capI (x + z + 1) ∧ cntT (.node 13 [] [a, b]) true = capI (y + u + 1)) := by
        have h1 := cnt_two 13 a b false (by omega)
        have h2 := cnt_two 13 a b true (by omega)
        first | rw [Bool.not_false] at h1 | skip
        first | rw [Bool.not_true] at h2 | skip
        rw [h1, h2, hx, hy, hz, hu]
        exact ⟨rfl, rfl⟩
      clear hx hy hz hu
      obtain ⟨c0, c1, c2, _⟩ := cells_three Hb.out
      obtain ⟨p0, p1, p2⟩ := HP.out
      obtain ⟨p0, p1, p2⟩ := And.intro (HcW.out.cell' p0 (fun e => e)) (And.intro (HcW.out.cell' p1 (fun e => e)) (HcW.out.cell' p2 (fun e => e)))
      rw [hWe] at c0 c1 c2 p0 p1 p2
      go_enter Tryz.func49, Tryz.ntmps49
      go_wp2_with fail
      rw [← hWe]
      have hcall := Hca.out _ (Chg.refl _ _)
      (with_reducible refine hcall.mono ?_)
      clear hcall c0 c1 c2 p0 p1 p2
      rintro e w1 ⟨rfl, hc1⟩
      obtain ⟨c0, c1, c2, _⟩ := cells_three (hc1.at Hb.out (fun e => e))
      obtain ⟨q0, q1, q2⟩ := HQ.out
      obtain ⟨q0, q1, q2⟩ := And.intro ((HcW.out.trans1 hc1).cell' q0 (fun e => e)) (And.intro ((HcW.out.trans1 hc1).cell' q1 (fun e => e)) ((HcW.out.trans1 hc1).cell' q2 (fun e => e)))
      go_wp2_with fail
      have hcall := Hcb.out _ hc1
      (with_reducible refine hcall.mono ?_)
      clear hcall c0 c1 c2 q0 q1 q2
      rintro e w2 ⟨rfl, hc2⟩
      have hcw2 := HcW.out.trans1 (hc1.trans1 hc2)
      go_wp2
      all_goals
        go_ret2
        refine ⟨?_, hcw2⟩
        rw [Hr.out.1, Hr.out.2]
        refine ints2 ?_ ?_
        all_goals (try unfold capI)
        all_goals (try split)
        all_goals omega
    · have Hr : Hid (cntT (.node 14 [] [a, b]) false = capI (x + 2 * z + 2) ∧ cntT (.node 14 [] [a, b]) true = capI (y + 2 * u + 2)) := by
        have h1 := cnt_weak a b false
        have h2 := cnt_weak a b true
        first | rw [Bool.not_false] at h1 | skip
        first | rw [Bool.not_true] at h2 | skip
        rw [h1, h2, hx, hy, hz, hu]
        exact ⟨rfl, rfl⟩
      clear hx hy hz hu
      obtain ⟨c0, c1, c2, _⟩ := cells_three Hb.out
      obtain ⟨p0, p1, p2⟩ := HP.out
      obtain ⟨p0, p1, p2⟩ := And.intro (HcW.out.cell' p0 (fun e => e)) (And.intro (HcW.out.cell' p1 (fun e => e)) (HcW.out.cell' p2 (fun e => e)))
      rw [hWe] at c0 c1 c2 p0 p1 p2
      go_enter Tryz.func49, Tryz.ntmps49
      go_wp2_with fail
      rw [← hWe]
      have hcall := Hca.out _ (Chg.refl _ _)
      (with_reducible refine hcall.mono ?_)
      clear hcall c0 c1 c2 p0 p1 p2
      rintro e w1 ⟨rfl, hc1⟩
      obtain ⟨c0, c1, c2, _⟩ := cells_three (hc1.at Hb.out (fun e => e))
      obtain ⟨q0, q1, q2⟩ := HQ.out
      obtain ⟨q0, q1, q2⟩ := And.intro ((HcW.out.trans1 hc1).cell' q0 (fun e => e)) (And.intro ((HcW.out.trans1 hc1).cell' q1 (fun e => e)) ((HcW.out.trans1 hc1).cell' q2 (fun e => e)))
      go_wp2_with fail
      have hcall := Hcb.out _ hc1
      (with_reducible refine hcall.mono ?_)
      clear hcall c0 c1 c2 q0 q1 q2
      rintro e w2 ⟨rfl, hc2⟩
      have hcw2 := HcW.out.trans1 (hc1.trans1 hc2)
      go_wp2
      all_goals
        go_ret2
        refine ⟨?_, hcw2⟩
        rw [Hr.out.1, Hr.out.2]
        refine ints2 ?_ ?_
        all_goals (try unfold capI)
        all_goals (try split)
        all_goals omega
end Go.Proofs.YtkgfdgfhpdhhaaaGreat
