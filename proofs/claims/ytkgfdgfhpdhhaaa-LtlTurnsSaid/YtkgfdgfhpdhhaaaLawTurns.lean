/- The law LtlTurns: whatever the formula, it returns true. No condition. -/
import Derived.Test.YtkgfdgfhpdhhaaaTi
namespace Go.Proofs.Ytkgfdgfhpdhhaaa.ltlTurns
open Go.ChangeShapes Go.WideShapes Go.ChangeAt Go.RowKit
open Go.ChangeMaps (open_string shut_string)

theorem norm_zero {t : T} (h : normN t = 0) : normT t = nfT t false ∧ mayT t = true ∧ depthT t ≤ 100 ∧ sizeT (nfT t false) ≤ 20000 := by
  have h0 : checkN t = 0 := by
    unfold normN at h
    split at h
    · assumption
    · rename_i hn; exact absurd h hn
  obtain ⟨hm, hd⟩ := checkN_zero h0
  refine ⟨if_pos h, hm, hd, ?_⟩
  unfold normN at h
  rw [if_pos h0] at h
  split at h
  · assumption
  · cases h
theorem norm_no {t : T} (h : normN t ≠ 0) : normT t = .node 0 [] [] := if_neg h
theorem check_may {t : T} (h : mayT t = true) : checkN t = if 100 < depthT t then 93 else 0 := by
  unfold checkN
  rw [h, if_neg (by simp)]
theorem norm_may {t : T} (h : mayT t = true) : normN t = if 100 < depthT t then 93 else if sizeT (nfT t false) ≤ 20000 then 0 else 2 := by
  unfold normN
  rw [check_may h]
  by_cases hd : 100 < depthT t
  · rw [if_pos hd, if_pos hd, if_neg (by omega)]
  · rw [if_neg hd, if_neg hd, if_pos rfl]
theorem depth_one (k : Int) (t : T) : depthT (.node k [] [t]) = depthT t + 1 := by
  rw [depthT, depthL, depthL]; omega
theorem allocs_four (w : World) (s : Nat) (hs : w.heap.size = s) (a b c d : Array Value) : ∃ Z, Z = (((w.alloc (.cells a 37)).alloc (.cells b 37)).alloc (.cells c 37)).alloc (.cells d 37) ∧ Chg Nob w Z ∧ Z.heap[s]? = some (.cells a 37 (0, 0)) ∧ Z.heap[s + 1]? = some (.cells b 37 (0, 0)) ∧ Z.heap[s + 1 + 1]? = some (.cells c 37 (0, 0)) ∧ Z.heap[s + 1 + 1 + 1]? = some (.cells d 37 (0, 0)) := by
  subst hs
  have h1 := heap_alloc_new (w.alloc (.cells a 37)) (.cells b 37)
  have h2 := heap_alloc_new ((w.alloc (.cells a 37)).alloc (.cells b 37)) (.cells c 37)
  have h3 := heap_alloc_new (((w.alloc (.cells a 37)).alloc (.cells b 37)).alloc (.cells c 37)) (.cells d 37)
  rw [World.size_alloc] at h1
  rw [World.size_alloc, World.size_alloc] at h2
  rw [World.size_alloc, World.size_alloc, World.size_alloc] at h3
  exact ⟨_, rfl, ((((Chg.refl _ _).alloc _).alloc _).alloc _).alloc _, ((((Chg.refl Nob _).alloc _).alloc _).alloc _).at (heap_alloc_new w _) (fun e => e), (((Chg.refl Nob _).alloc _).alloc _).at h1 (fun e => e), ((Chg.refl Nob _).alloc _).at h2 (fun e => e), h3⟩
theorem size_not (t : T) : sizeT (.node 4 [] [t]) = sizeT t + 1 := by
  rw [sizeT, sizeL, sizeL]; omega
theorem may_not {t : T} (h : mayT t = true) : mayT (.node 4 [] [t]) = true := may_one (by omega) h

set_option maxRecDepth 100000 in
set_option maxHeartbeats 8000000 in
theorem walk (v : Value) (t : T) (w : World) (ht : IsTree (Old w) w t v) :
    Calls Try.prog 9 #[v] w fun e w' => e = .returned (.bool true) ∧ Below w.heap.size w w' := by
  obtain ⟨ao, cap, rfl, hlen, _⟩ := ht.parts
  obtain ⟨W, hWe, hcW, hsW, hb0⟩ := box_one w (.int .i64 t.kind) (.string ⟨t.name.toArray⟩) (.slice ao t.kids.length cap)
  have Hb0 := Lib.hid hb0
  have HtW := Lib.hid ((TI.old ht).nob hcW)
  have HsW := Lib.hid hsW
  clear ht hb0 hsW
  go_enter Try.func9, Try.ntmps9
  go_wp2_with fail
  rw [← hWe]
  clear hWe
  (with_reducible refine (great_ti HtW.out).mono ?_)
  rintro e w2 ⟨rfl, hc2⟩
  have hcw2 := hcW.trans1 hc2
  by_cases hg : greatT t 100000 ≤ 0
  · go_wp2_with fail
    (with_reducible refine (known_any _).mono ?_)
    rintro e w3 ⟨rfl, hc3⟩
    go_wp2
    go_ret
    exact ⟨rfl, (hcw2.trans1 hc3).toBelow⟩
  · have hsz := great_size hg
    obtain ⟨c0, c1, c2, _⟩ := cells_three (hc2.at Hb0.out (fun e => e))
    have hp := norm_ti (HtW.out.nob hc2) (by omega)
    go_wp2_with fail
    (with_reducible refine hp.mono ?_)
    clear hp c0 c1 c2
    rintro e w3 ⟨hc3, a3, cp3, hT3, rfl⟩
    obtain ⟨n, hn⟩ : ∃ n, n = normT t := ⟨_, rfl⟩
    rw [← hn] at hT3 ⊢
    obtain ⟨X3, hX3e, hcX3, hsX3, hb3⟩ := box_one w3 (.int .i64 n.kind) (.string ⟨n.name.toArray⟩) (.slice a3 n.kids.length cp3)
    have Hb3 := Lib.hid hb3
    obtain ⟨d0, d1, d2, _⟩ := cells_three hb3
    have HX3e := Lib.hid hX3e
    have HT3 := Lib.hid (hT3.nob hcX3)
    have h03 := (hc2.trans1 hc3).trans1 hcX3
    have Hn := Lib.hid hn
    clear hb3 hT3 hn hsX3 hX3e hc2 hc3 hcX3
    cases hn0 : (normN t == 0) with
    | false =>
      have hne : (normN t != 0) = true := by rw [bne, hn0]; rfl
      have hs : sameT n (.node 0 [] []) = true := by rw [Hn.out, norm_no (beq_eq_false_iff_ne.1 hn0)]; exact sameT_refl _
      have hp := same_ti HT3.out (TI.zero X3)
      rw [hs] at hp
      clear hs
      go_wp2_with fail
      rw [← HX3e.out]
      (with_reducible refine hp.mono ?_)
      clear hp d0 d1 d2
      rintro e w4 ⟨rfl, hc4⟩
      go_wp2_with fail
      (with_reducible refine (known_any _).mono ?_)
      rintro e w5 ⟨rfl, hc5⟩
      go_wp2
      go_ret
      exact ⟨rfl, (((hcW.trans1 h03).trans1 hc4).trans1 hc5).toBelow⟩
    | true =>
      have hne : (normN t != 0) = false := by rw [bne, hn0]; rfl
      obtain ⟨hnt, hm, hd, hns⟩ := norm_zero (beq_iff_eq.1 hn0)
      have Hnt : Hid (n = nfT t false) := Hn.out.trans hnt
      have hns' : sizeT n ≤ 20000 := by rw [Hnt.out]; exact hns
      have hPN : Hid (PN n) := (show PN n by rw [Hnt.out]; exact nf_PN t hm false)
      have Hm := Lib.hid hm
      clear hnt hns hm
      have hp := norm_ti HT3.out (by omega)
      go_wp2_with fail
      rw [← HX3e.out]
      (with_reducible refine hp.mono ?_)
      clear hp d0 d1 d2 HX3e
      rintro e w4 ⟨hc4, a4, cp4, hT4, rfl⟩
      obtain ⟨m, hmn⟩ : ∃ m, m = normT n := ⟨_, rfl⟩
      rw [← hmn] at hT4 ⊢
      obtain ⟨X4, hX4e, hcX4, hsX4, hb4⟩ := box_one w4 (.int .i64 m.kind) (.string ⟨m.name.toArray⟩) (.slice a4 m.kids.length cp4)
      have Hb4 := Lib.hid hb4
      have HX4e := Lib.hid hX4e
      have HT4 := Lib.hid (hT4.nob hcX4)
      have h34 := hc4.trans1 hcX4
      have Hmn := Lib.hid hmn
      clear hb4 hT4 hmn hsX4 hX4e hc4 hcX4
      cases hf : (normN n == 93) with
      | true =>
        go_wp2_with fail
        rw [← HX4e.out]
        (with_reducible refine (known_any _).mono ?_)
        rintro e w5 ⟨rfl, hc5⟩
        go_wp2
        go_ret
        exact ⟨rfl, (((hcW.trans1 h03).trans1 h34).trans1 hc5).toBelow⟩
      | false =>
        have hf0 : Hid (normN n = 0 ∧ m = n) := by
          have h1 := norm_may hPN.out.1
          rw [nf_self n hPN.out.1 hPN.out.2] at h1
          have h2 := beq_eq_false_iff_ne.1 hf
          rw [h1] at h2
          by_cases hdn : 100 < depthT n
          · rw [if_pos hdn] at h2; exact absurd rfl h2
          · rw [if_neg hdn, if_pos hns'] at h1
            exact ⟨h1, by rw [Hmn.out, (norm_zero h1).1, nf_self n hPN.out.1 hPN.out.2]⟩
        have hX := HX4e.out
        clear HX4e
        subst hX
        obtain ⟨c0, c1, c2, _⟩ := cells_three ((h03.trans1 h34).at Hb0.out (fun e => e))
        go_wp2_with fail
        obtain ⟨Z, hZe, hcZ, hz1, hz2, hz3, hz4⟩ := allocs_four (w4.alloc (.cells #[.int .i64 m.kind, .string ⟨m.name.toArray⟩, .slice a4 m.kids.length cp4] 37)) (w4.heap.size + 1) (World.size_alloc _ _) #[.int .i64 t.kind, .string ⟨t.name.toArray⟩, .slice ao t.kids.length cap] #[.int .i64 4, .string ⟨#[]⟩, .slice (some ⟨w4.heap.size + 1, 0, none⟩) 1 1] #[.int .i64 4, .string ⟨#[]⟩, .slice (some ⟨w4.heap.size + 1, 0, none⟩) 1 1] #[.int .i64 4, .string ⟨#[]⟩, .slice (some ⟨w4.heap.size + 1 + 1 + 1, 0, none⟩) 1 1]
        have htZ : TI Z t _ := HtW.out.nob ((h03.trans1 h34).trans1 hcZ)
        have hnoZ : TI Z (.node 4 [] [t]) (.agg #[.int .i64 4, .string ⟨#[]⟩, .slice (some ⟨w4.heap.size + 1, 0, none⟩) 1 1]) := htZ.one hz1
        have hnotZ : TI Z (.node 4 [] [.node 4 [] [t]]) (.agg #[.int .i64 4, .string ⟨#[]⟩, .slice (some ⟨w4.heap.size + 1 + 1 + 1, 0, none⟩) 1 1]) := hnoZ.one hz3
        have hp := norm_ti hnotZ (by rw [size_not, size_not]; omega)
        have hb3Z := (h34.trans1 hcZ).at Hb3.out (fun e => e)
        have hb4Z := hcZ.at Hb4.out (fun e => e)
        have hb0Z := ((h03.trans1 h34).trans1 hcZ).at Hb0.out (fun e => e)
        have HnZ := Lib.hid (HT3.out.nob (h34.trans1 hcZ))
        have HmZ := Lib.hid (HT4.out.nob hcZ)
        have HtZ := Lib.hid htZ
        have HnoZ := Lib.hid hnoZ
        have hwZ := ((hcW.trans1 h03).trans1 h34).trans1 hcZ
        have Hb3Z := Lib.hid hb3Z
        have Hb4Z := Lib.hid hb4Z
        have Hb0Z := Lib.hid hb0Z
        have Hz2 := Lib.hid hz2
        clear hz1 hz2 hz3 hz4 htZ hnoZ hnotZ hb3Z hb4Z hb0Z HT3 HT4 HtW Hb0 Hb3 Hb4
        rw [← hZe]
        clear hZe c0 c1 c2 hcZ h34 h03 hcW hcw2 HsW
        (with_reducible refine hp.mono ?_)
        clear hp
        rintro e w5 ⟨hc5, a5, cp5, hT5, rfl⟩
        have hnn : normN (.node 4 [] [.node 4 [] [t]]) = if 100 < depthT t + 1 + 1 then 93 else 0 := by
          rw [norm_may (may_not (may_not Hm.out)), depth_one, depth_one, nf_not', nf_not']
          have : sizeT (nfT t (!(!false))) ≤ 20000 := by show sizeT (nfT t false) ≤ 20000; rw [← Hnt.out]; exact hns'
          rw [if_pos this]
        obtain ⟨N2, hN2⟩ : ∃ N2, N2 = normN (.node 4 [] [.node 4 [] [t]]) := ⟨_, rfl⟩
        obtain ⟨q, hq⟩ : ∃ q, q = normT (.node 4 [] [.node 4 [] [t]]) := ⟨_, rfl⟩
        rw [← hq] at hT5 ⊢
        rw [← hN2] at hnn ⊢
        have HN2 := Lib.hid hN2
        have Hq := Lib.hid hq
        have Hnn := Lib.hid hnn
        obtain ⟨X5, hX5e, hcX5, _, hb5⟩ := box_one w5 (.int .i64 q.kind) (.string ⟨q.name.toArray⟩) (.slice a5 q.kids.length cp5)
        clear hN2 hq hnn
        cases hg0 : (N2 == 0) with
        | false =>
          have hne2 : (N2 != 0) = true := by rw [bne, hg0]; rfl
          have h93 : (N2 == 93) = true := by
            rw [beq_iff_eq]
            have h := Hnn.out
            have h0 := beq_eq_false_iff_ne.1 hg0
            by_cases hd2 : 100 < depthT t + 1 + 1
            · rw [if_pos hd2] at h; exact h
            · rw [if_neg hd2] at h; exact absurd h h0
          have HX5e := Lib.hid hX5e
          clear hX5e hb5
          go_wp2_with fail
          rw [← HX5e.out]
          (with_reducible refine (known_any _).mono ?_)
          rintro e w6 ⟨rfl, hc6⟩
          go_wp2
          go_ret
          exact ⟨rfl, (((hwZ.trans1 hc5).trans1 hcX5).trans1 hc6).toBelow⟩
        | true =>
          have hne2 : (N2 != 0) = false := by rw [bne, hg0]; rfl
          have hd2 : depthT t + 1 + 1 ≤ 100 := by
            have h := Hnn.out
            have h0 := beq_iff_eq.1 hg0
            by_cases hd2 : 100 < depthT t + 1 + 1
            · rw [if_pos hd2, h0] at h; cases h
            · omega
          have hqn : Hid (q = n) := (show q = n by
            have h := norm_zero (HN2.out.symm.trans (beq_iff_eq.1 hg0))
            rw [Hq.out, h.1, nf_not', nf_not', Hnt.out]; rfl)
          subst hX5e
          have h5 := hc5.trans1 hcX5
          obtain ⟨c0, c1, c2, _⟩ := cells_three (h5.at Hz2.out (fun e => e))
          have hp := norm_ti (HnoZ.out.nob h5) (by rw [size_not]; omega)
          have HqX := Lib.hid (hT5.nob hcX5)
          have Hb5 := Lib.hid hb5
          clear hT5 hb5 hc5 hcX5
          go_wp2_with fail
          generalize w5.alloc (.cells #[.int .i64 q.kind, .string ⟨q.name.toArray⟩, .slice a5 q.kids.length cp5] 37) = X5 at *
          (with_reducible refine hp.mono ?_)
          clear hp c0 c1 c2
          rintro e w6 ⟨hc6, a6, cp6, hT6, rfl⟩
          have hnn : normN (.node 4 [] [t]) = if sizeT (nfT t true) ≤ 20000 then 0 else 2 := by
            rw [norm_may (may_not Hm.out), depth_one, nf_not', if_neg (by omega)]; rfl
          obtain ⟨N1, hN1⟩ : ∃ N1, N1 = normN (.node 4 [] [t]) := ⟨_, rfl⟩
          obtain ⟨x, hx⟩ : ∃ x, x = normT (.node 4 [] [t]) := ⟨_, rfl⟩
          rw [← hx] at hT6 ⊢
          rw [← hN1] at hnn ⊢
          have HN1 := Lib.hid hN1
          have Hx := Lib.hid hx
          have Hnn1 := Lib.hid hnn
          obtain ⟨X6, hX6e, hcX6, _, hb6⟩ := box_one w6 (.int .i64 x.kind) (.string ⟨x.name.toArray⟩) (.slice a6 x.kids.length cp6)
          clear hN1 hx hnn
          cases hh0 : (N1 == 0) with
          | false =>
            have hne3 : (N1 != 0) = true := by rw [bne, hh0]; rfl
            have h2 : (N1 == 2) = true := by
              rw [beq_iff_eq]
              have h := Hnn1.out
              have h0 := beq_eq_false_iff_ne.1 hh0
              by_cases hs1 : sizeT (nfT t true) ≤ 20000
              · rw [if_pos hs1] at h; exact absurd h h0
              · rw [if_neg hs1] at h; exact h
            have HX6e := Lib.hid hX6e
            clear hX6e hb6
            go_wp2_with fail
            rw [← HX6e.out]
            (with_reducible refine (known_any _).mono ?_)
            rintro e w7 ⟨rfl, hc7⟩
            go_wp2
            go_ret
            exact ⟨rfl, ((((hwZ.trans1 h5).trans1 hc6).trans1 hcX6).trans1 hc7).toBelow⟩
          | true =>
            have hne3 : (N1 != 0) = false := by rw [bne, hh0]; rfl
            have hxt : Hid (x = nfT t true ∧ sizeT x ≤ 20000) := (show x = nfT t true ∧ sizeT x ≤ 20000 by
              have h := norm_zero (HN1.out.symm.trans (beq_iff_eq.1 hh0))
              rw [Hx.out, h.1]
              exact ⟨by rw [nf_not']; rfl, h.2.2.2⟩)
            have HPx : Hid (PN x) := (show PN x by rw [hxt.out.1]; exact nf_PN t Hm.out true)
            subst hX6e
            have h6 := hc6.trans1 hcX6
            have HxX := Lib.hid (hT6.nob hcX6)
            have Hb6 := Lib.hid hb6
            obtain ⟨Y, hYe, hcY, hsY, hy⟩ := box_one (w6.alloc (.cells #[.int .i64 x.kind, .string ⟨x.name.toArray⟩, .slice a6 x.kids.length cp6] 37)) (.int .i64 x.kind) (.string ⟨x.name.toArray⟩) (.slice a6 x.kids.length cp6)
            rw [World.size_alloc] at hy
            have hp := norm_ti ((HxX.out.nob hcY).one (k := 4) hy) (by rw [size_not]; have := hxt.out.2; omega)
            subst hYe
            clear hT6 hb6 hc6 hcX6 hy hsY
            go_wp2_with fail
            generalize w6.alloc (.cells #[.int .i64 x.kind, .string ⟨x.name.toArray⟩, .slice a6 x.kids.length cp6] 37) = X6 at *
            generalize X6.alloc (.cells #[.int .i64 x.kind, .string ⟨x.name.toArray⟩, .slice a6 x.kids.length cp6] 37) = Y at *
            (with_reducible refine hp.mono ?_)
            clear hp
            rintro e w7 ⟨hc7, a7, cp7, hT7, rfl⟩
            have hnn : normN (.node 4 [] [x]) = if 100 < depthT x + 1 then 93 else if sizeT (nfT x true) ≤ 20000 then 0 else 2 := by
              rw [norm_may (may_not HPx.out.1), depth_one, nf_not']; rfl
            have hiff : hasT 11 t = false → nfT x true = n := fun h => by
              rw [hxt.out.1, nf_back t Hm.out h, Hnt.out]; rfl
            obtain ⟨N0, hN0⟩ : ∃ N0, N0 = normN (.node 4 [] [x]) := ⟨_, rfl⟩
            obtain ⟨y, hy⟩ : ∃ y, y = normT (.node 4 [] [x]) := ⟨_, rfl⟩
            rw [← hy] at hT7 ⊢
            rw [← hN0] at hnn ⊢
            have HN0 := Lib.hid hN0
            have Hy := Lib.hid hy
            have Hnn0 := Lib.hid hnn
            have Hiff := Lib.hid hiff
            clear hN0 hy hnn hiff
            have h67 := (h6.trans1 hcY).trans1 hc7
            cases hk0 : (N0 == 0) with
            | false =>
              have hne4 : (N0 != 0) = true := by rw [bne, hk0]; rfl
              cases h93 : (N0 == 93) with
              | true =>
                obtain ⟨X7, hX7e, hcX7, _, hb7⟩ := box_one w7 (.int .i64 y.kind) (.string ⟨y.name.toArray⟩) (.slice a7 y.kids.length cp7)
                have HX7e := Lib.hid hX7e
                clear hX7e hb7
                go_wp2_with fail
                rw [← HX7e.out]
                (with_reducible refine (known_any _).mono ?_)
                rintro e w8 ⟨rfl, hc8⟩
                go_wp2
                go_ret
                exact ⟨rfl, ((((hwZ.trans1 h5).trans1 h67).trans1 hcX7).trans1 hc8).toBelow⟩
              | false =>
                have hh : hasT 11 t = true := by
                  cases hh : hasT 11 t with
                  | true => rfl
                  | false =>
                    have h := Hnn0.out
                    rw [Hiff.out hh, if_pos hns'] at h
                    have h1 := beq_eq_false_iff_ne.1 hk0
                    have h2 := beq_eq_false_iff_ne.1 h93
                    by_cases hd3 : 100 < depthT x + 1
                    · rw [if_pos hd3] at h; exact absurd h h2
                    · rw [if_neg hd3] at h; exact absurd h h1
                have h2 : (N0 == 2) = true := by
                  rw [beq_iff_eq]
                  have h := Hnn0.out
                  have h1 := beq_eq_false_iff_ne.1 hk0
                  have h2 := beq_eq_false_iff_ne.1 h93
                  by_cases hd3 : 100 < depthT x + 1
                  · rw [if_pos hd3] at h; exact absurd h h2
                  · rw [if_neg hd3] at h
                    split at h
                    · exact absurd h h1
                    · exact h
                obtain ⟨X7, hX7e, hcX7, _, hb7⟩ := box_one w7 (.int .i64 y.kind) (.string ⟨y.name.toArray⟩) (.slice a7 y.kids.length cp7)
                subst hX7e
                obtain ⟨c0, c1, c2, _⟩ := cells_three (((h5.trans1 h67).trans1 hcX7).at Hb0Z.out (fun e => e))
                have hp := has_ti 11 (HtZ.out.nob ((h5.trans1 h67).trans1 hcX7))
                rw [hh] at hp
                clear hh hb7
                go_wp2_with fail
                generalize w7.alloc (.cells #[.int .i64 y.kind, .string ⟨y.name.toArray⟩, .slice a7 y.kids.length cp7] 37) = X7 at *
                (with_reducible refine hp.mono ?_)
                clear hp c0 c1 c2
                rintro e w8 ⟨rfl, hc8⟩
                go_wp2_with fail
                (with_reducible refine (known_any _).mono ?_)
                rintro e w9 ⟨rfl, hc9⟩
                go_wp2
                go_ret
                exact ⟨rfl, (((((hwZ.trans1 h5).trans1 h67).trans1 hcX7).trans1 hc8).trans1 hc9).toBelow⟩
            | true =>
              have hne4 : (N0 != 0) = false := by rw [bne, hk0]; rfl
              have hf0b : (normN n == 0) = true := by rw [hf0.out.1]; rfl
              obtain ⟨X7, hX7e, hcX7, _, hb7⟩ := box_one w7 (.int .i64 y.kind) (.string ⟨y.name.toArray⟩) (.slice a7 y.kids.length cp7)
              subst hX7e
              have hZ7 := (h5.trans1 h67).trans1 hcX7
              have H57 : Chg Nob X5 (w7.alloc (.cells #[.int .i64 y.kind, .string ⟨y.name.toArray⟩, .slice a7 y.kids.length cp7] 37)) := h67.trans1 hcX7
              have H67 : Chg Nob X6 (w7.alloc (.cells #[.int .i64 y.kind, .string ⟨y.name.toArray⟩, .slice a7 y.kids.length cp7] 37)) := (hcY.trans1 hc7).trans1 hcX7
              have Bm := Lib.hid (hZ7.at Hb4Z.out (fun e => e))
              have Bn := Lib.hid (hZ7.at Hb3Z.out (fun e => e))
              have Bt := Lib.hid (hZ7.at Hb0Z.out (fun e => e))
              have Bq := Lib.hid (H57.at Hb5.out (fun e => e))
              have Bx := Lib.hid (H67.at Hb6.out (fun e => e))
              have By := Lib.hid hb7
              have Tn := Lib.hid (HnZ.out.nob hZ7)
              have Tm := Lib.hid (HmZ.out.nob hZ7)
              have Tt := Lib.hid (HtZ.out.nob hZ7)
              have Tq := Lib.hid (HqX.out.nob H57)
              have Tx := Lib.hid (HxX.out.nob H67)
              have Ty := Lib.hid (hT7.nob hcX7)
              have hs1 : sameT m n = true := by rw [hf0.out.2]; exact sameT_refl _
              have hs2 : sameT q n = true := by rw [hqn.out]; exact sameT_refl _
              have hwX : Chg Nob w (w7.alloc (.cells #[.int .i64 y.kind, .string ⟨y.name.toArray⟩, .slice a7 y.kids.length cp7] 37)) := hwZ.trans1 hZ7
              obtain ⟨c0, c1, c2, _⟩ := cells_three Bm.out
              obtain ⟨d0, d1, d2, _⟩ := cells_three Bn.out
              have hp := same_ti Tm.out Tn.out
              rw [hs1] at hp
              have Hs2 := Lib.hid hs2
              clear hb7 hT7 hZ7 H57 H67 hs1 hs2
              go_wp2_with fail
              generalize w7.alloc (.cells #[.int .i64 y.kind, .string ⟨y.name.toArray⟩, .slice a7 y.kids.length cp7] 37) = V at *
              (with_reducible refine hp.mono ?_)
              clear hp c0 c1 c2 d0 d1 d2
              rintro e v1 ⟨rfl, g1⟩
              obtain ⟨c0, c1, c2, _⟩ := cells_three (g1.at Bq.out (fun e => e))
              obtain ⟨d0, d1, d2, _⟩ := cells_three (g1.at Bn.out (fun e => e))
              have hp := same_ti (Tq.out.nob g1) (Tn.out.nob g1)
              rw [Hs2.out] at hp
              go_wp2_with fail
              (with_reducible refine hp.mono ?_)
              clear hp c0 c1 c2 d0 d1 d2
              rintro e v2 ⟨rfl, g2⟩
              obtain ⟨d0, d1, d2, _⟩ := cells_three ((g1.trans1 g2).at Bn.out (fun e => e))
              have hp := plain_ti (Tn.out.nob (g1.trans1 g2)) (by omega)
              rw [hPN.out.plain] at hp
              go_wp2_with fail
              (with_reducible refine hp.mono ?_)
              clear hp d0 d1 d2
              rintro e v3 ⟨rfl, g3⟩
              have g13 := (g1.trans1 g2).trans1 g3
              obtain ⟨d0, d1, d2, _⟩ := cells_three (g13.at Bx.out (fun e => e))
              have hp := plain_ti (Tx.out.nob g13) (by have := hxt.out.2; omega)
              rw [HPx.out.plain] at hp
              go_wp2_with fail
              (with_reducible refine hp.mono ?_)
              clear hp d0 d1 d2
              rintro e v4 ⟨rfl, g4⟩
              have g14 := g13.trans1 g4
              obtain ⟨c0, c1, c2, _⟩ := cells_three (g14.at By.out (fun e => e))
              obtain ⟨d0, d1, d2, _⟩ := cells_three (g14.at Bn.out (fun e => e))
              have hp := same_ti (Ty.out.nob g14) (Tn.out.nob g14)
              go_wp2_with fail
              (with_reducible refine hp.mono ?_)
              clear hp c0 c1 c2 d0 d1 d2
              rintro e v5 ⟨rfl, g5⟩
              have g15 := g14.trans1 g5
              cases hsy : sameT y n with
              | true =>
                go_wp2_with fail
                (with_reducible refine (known_any _).mono ?_)
                rintro e v6 ⟨rfl, g6⟩
                go_wp2
                go_ret
                exact ⟨rfl, ((hwX.trans1 g15).trans1 g6).toBelow⟩
              | false =>
                have hh : hasT 11 t = true := by
                  cases hh : hasT 11 t with
                  | true => rfl
                  | false =>
                    have h := norm_zero (HN0.out.symm.trans (beq_iff_eq.1 hk0))
                    have e : y = n := by rw [Hy.out, h.1, nf_not', ← Hiff.out hh]; rfl
                    rw [e, sameT_refl] at hsy
                    cases hsy
                obtain ⟨c0, c1, c2, _⟩ := cells_three (g15.at Bt.out (fun e => e))
                have hp := has_ti 11 (Tt.out.nob g15)
                rw [hh] at hp
                clear hh
                go_wp2_with fail
                (with_reducible refine hp.mono ?_)
                clear hp c0 c1 c2
                rintro e v6 ⟨rfl, g6⟩
                go_wp2_with fail
                (with_reducible refine (known_any _).mono ?_)
                rintro e v7 ⟨rfl, g7⟩
                go_wp2
                go_ret
                exact ⟨rfl, (((hwX.trans1 g15).trans1 g6).trans1 g7).toBelow⟩

set_option maxRecDepth 100000 in
theorem lifted (os : Os) (started : os.Started) (H : Type) (enc : TypeId × Value → H) :
    ReturnsInHanded {} Try.checked os 9 .any (Rows.ltlTurnsSpec.pre6 enc Try.prog Try.f9 Rows.ltlTurnsRow.domain false) (Rows.ltlTurnsSpec.post enc Try.prog Try.f9 false true false false) := by
  refine returnsInHanded_of_change_sized (C := Try.checked) own started (by kernel_rfl) Try.func9
    (ChangeSpec.witness6 (enc := enc) (C := Try.checked) false ⟨#[], #[.agg #[.int .i64 0, .string ByteArray.empty, .slice none 0 0]], []⟩ 8 (by kernel_rfl) (by kernel_rfl) (by kernel_rfl) (by kernel_rfl)) ?_
  intro W base args ds gs before hval0 hW hcnd hsz0 _
  have hval : ∀ (j : Nat) t v, Try.f9.params[j]? = some t → args[j]? = some v → Value.okWide Try.prog W .any base t v := hval0
  have hsz : (DataW.weightsEach Try.prog (Try.f9.params.toList ++ Rows.ltlTurnsSpec.plain.varTypes Try.prog) (ds ++ gs)).all (· ≤ reachBytes) = true := hsz0
  have hW' := hW
  obtain ⟨p, q, hA0, hV, rfl, hfz, hnd⟩ := hW
  have hA : DataW.TrodAll enc Try.prog W 0 (fun _ => true) true Try.f9.params.toList args.toList ds p := hA0
  rw [Try.params9] at hA hval hsz
  obtain ⟨v0, vs0, d0, ds0, p0, q0, hargs, rfl, rfl, h0, r0⟩ := trodAll_cons hA
  obtain ⟨rfl, rfl, rfl⟩ := trodAll_nil r0
  obtain rfl : args = #[v0] := by cases args; simp_all
  obtain ⟨rfl, rfl⟩ := trodVars_none hV
  have k0 := h0
  have lt0 : ∀ x ∈ p0, x.block < W.heap.size := by obtain ⟨m, hm⟩ := k0; exact DataW.trod_lt m _ _ _ hm
  obtain ⟨l0, hl0⟩ := open_tree (hval 0 37 v0 rfl rfl) h0
  clear hA0 hval0
  refine (walk v0 l0 W hl0).mono fun e W' ⟨he, bel⟩ => ?_
  subst he
  exact ⟨_, rfl, _, _, _, [], _, [], hW', trodAll_mk1 (shut_bool Try.underlying4 _), (trodAll_cons_mk (Below.trod laidOut (by kernel_rfl) (of_decide_eq_true (by kernel_rfl)) k0 bel lt0) trodAll_mk0), rfl, bel.frame _, fun h => by cases h⟩

theorem over : Rows.ltlTurnsRow.holds Try.pinned (OpenSpec.ofChange Rows.ltlTurnsSpec) :=
  OpenClaim.holds_of_wide 9 Try.f9 rfl rfl rfl rfl rfl rfl rfl ⟨rfl, rfl, rfl, rfl, rfl⟩ rfl rfl rfl rfl rfl (by kernel_rfl) Try.func9 (by kernel_rfl)
    (of_decide_eq_true (by kernel_rfl)) (by unfold Func.isWrapper; rw [if_neg (of_decide_eq_false (by kernel_rfl))]; exact ⟨rfl, rfl⟩)
    (fun os started H enc _ => lifted os started H enc)

theorem proved : Rows.LtlTurnsSaid :=
  over
end Go.Proofs.Ytkgfdgfhpdhhaaa.ltlTurns
