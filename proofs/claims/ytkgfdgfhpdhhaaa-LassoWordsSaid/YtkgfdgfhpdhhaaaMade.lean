/- Which formulas may be, by the program. Conditions: as each theorem states. -/
import Derived.Test.YtkgfdgfhpdhhaaaSize
import Derived.Test.YtkgfdgfhpdhhaaaPdepth
import Derived.Test.YtkgfdgfhpdhhaaaLev
namespace Go.Proofs.Ytkgfdgfhpdhhaaa
open Go.ChangeShapes Go.WideShapes Go.RowKit Go.Shelf Go.Sort

attribute [local go_sem] Oper.semAt_some

def nodeOk (t : T) : Bool := okNode t.kind t.name t.kids.length
mutual
theorem mayT_allT : ∀ t : T, mayT t = (allT t).all nodeOk
  | .node k nm kids => by
    rw [mayT, allT, List.all_cons, mayL_allL]; rfl
theorem mayL_allL : ∀ l : List T, mayL l = (allL l).all nodeOk
  | [] => by rw [mayL, allL]; rfl
  | t :: ts => by rw [mayL, allL, List.all_append, mayT_allT, mayL_allL]
end

set_option maxRecDepth 100000 in
theorem results68 {rb : Nat} {tm : Array Value} {w : World} {x : Bool} (h2 : tm[2]? = some (.pointer (some ⟨rb, 0, none⟩))) (hb : w.heap[rb]? = some (.cells #[.bool x] 4 (0, 0))) : (results Try.f68 tm).run Try.prog w = .ok (.bool x) w := by
  have c0 := cell_row hb 0 (v := .bool x) rfl
  simp [results, Try.results68, go_sem, h2, c0]
set_option maxRecDepth 100000 in
set_option maxHeartbeats 4000000 in
theorem made_any (R : Nat → Prop) (t : T) (v : Value) (w : World) (ht : IsTree R w t v) (hN : sizeT t ≤ 1000000) (hR : ∀ b, R b → b < w.heap.size) :
    Calls Try.prog 68 #[v] w fun e w' => e = .returned (.bool (mayT t)) ∧ Chg Nob w w' := by
  obtain ⟨a, b, c, hv⟩ := ht.agg
  have Ht := Lib.hid ht
  clear ht
  subst hv
  refine (callsIn_wide (n := 5)).1 (callsIn_of_wp_marks Try.func68 rfl trivial ?_ rfl)
  simp only [Try.ntmps68, List.size_toArray, List.length_cons, List.length_nil, Nat.reduceAdd, Nat.reduceSub, Array.replicate_succ, Array.replicate_zero, List.push_toArray, List.append_toArray, List.nil_append, List.cons_append]
  gi_wp2
  refine ⟨trivial, (callsIn_wide.2 (parts_any (.agg #[a, b, c]) a b c rfl _)).mono ?_⟩
  rintro e w1 ⟨rfl, rfl⟩
  gi_wp2
  have hw2 : Chg Nob w ((w.alloc (.cells #[a, b, c] 37)).alloc (.cells #[.bool false] 4)) := ((Chg.refl _ _).alloc _).alloc _
  have hs2 : ((w.alloc (.cells #[a, b, c] 37)).alloc (.cells #[.bool false] 4)).heap.size = w.heap.size + 1 + 1 := by simp
  have hit := parts_of (n := 4) (by omega) (V0 := fun k => k = w.heap.size + 1) (rfl : Value.agg #[a, b, c] = _) Ht.out hN hR hw2 hs2 (by rintro k rfl; omega)
  have hcnt := heap_alloc_new (w.alloc (.cells #[a, b, c] 37)) (.cells #[.bool false] 4)
  rw [World.size_alloc] at hcnt
  have hcnt3 := ((Chg.refl Nob _).alloc (.cells #[a, b, c] 37)).at hcnt (fun e => e)
  have hw3 : Chg Nob w (((w.alloc (.cells #[a, b, c] 37)).alloc (.cells #[.bool false] 4)).alloc (.cells #[a, b, c] 37)) := hw2.alloc _
  have hs3 : (((w.alloc (.cells #[a, b, c] 37)).alloc (.cells #[.bool false] 4)).alloc (.cells #[a, b, c] 37)).heap.size = w.heap.size + 3 := by simp
  have htr := preT_tree t (.agg #[a, b, c]) (Ht.out.nob hw3)
  have hall := preT_all (((w.alloc (.cells #[a, b, c] 37)).alloc (.cells #[.bool false] 4)).alloc (.cells #[a, b, c] 37)) t (.agg #[a, b, c])
  clear hcnt
  generalize (((w.alloc (.cells #[a, b, c] 37)).alloc (.cells #[.bool false] 4)).alloc (.cells #[a, b, c] 37)) = W3 at *
  have Htr := Lib.hid htr
  have Hall := Lib.hid hall
  clear htr hall
  refine range_iter (E := E9) (n0 := w.heap.size) (gf := 97) (by omega) rfl (enters_of Try.func97 (by kernel_rfl) rfl) hit (by rintro k rfl; omega) (fun _ => rfl)
    (fun pre W => W.heap[w.heap.size + 1]? = some (.cells #[.bool false] 4 (0, 0)) ∧ (∀ x ∈ pre, nodeOk x.1 = true) ∧ Chg Nob w W)
    (fun c pre W => c = .ret ∧ W.heap[w.heap.size + 1]? = some (.cells #[.bool false] 4 (0, 0)) ∧ (∃ x ∈ pre, nodeOk x.1 = false) ∧ Chg Nob w W) ?_ ?_ ⟨hcnt3, (fun _ h => by cases h), hw3⟩ ?_ ?_ ?_
  · rintro pre A B ⟨h1, h2, h3⟩ hs
    exact ⟨Chg.at hs h1 (fun e => by have := e.1; omega), h2, chg_steps h3 hs (by omega)⟩
  · rintro c pre A B ⟨h0, h1, h2, h3⟩ hs
    exact ⟨h0, Chg.at hs h1 (fun e => by have := e.1; omega), h2, chg_steps h3 hs (by omega)⟩
  · rintro l pre ⟨x, xv⟩ W ⟨h1, h2, h3⟩ hpre hsz
    have hxm : (x, xv) ∈ preT W3 t (.agg #[a, b, c]) := hpre.subset (by simp)
    have htx : IsTree R W3 x xv := Htr.out _ hxm
    obtain ⟨ao, cap, rfl, hxl, _⟩ := htx.parts
    have Htx := Lib.hid htx
    clear htx hxm
    simp only [zip1, List.setIfInBounds_toArray, List.set_cons_succ, List.set_cons_zero]
    gi_wp2
    refine ⟨Keeps.of_chg ((Chg.refl _ _).alloc _), fun w₂ hc2 hst2 => ?_⟩
    have hbx := Chg.at hc2 (heap_alloc_new W _) (fun e => by have e : W.heap.size = W3.heap.size + 1 := e; omega)
    obtain ⟨c0, c1, c2, _⟩ := cells_three hbx
    have hres := Chg.at hc2 (((Chg.refl Nob W).alloc (.cells #[.int .i64 x.kind, .string ⟨x.name.toArray⟩, .slice ao x.kids.length cap] 37)).at h1 (fun e => e)) (fun e => by have e : w.heap.size + 1 = W3.heap.size + 1 := e; omega)
    have hcw : Chg Nob w w₂ := chg_steps (h3.alloc _) hst2 (by omega)
    have Hno : Hid (nodeOk x = false → ∀ w', Chg Nob w₂ w' → Keeps E9 w.heap.size (fun k => k = w.heap.size + 1) w₂ (w'.setCell ⟨w.heap.size + 1, 0, none⟩ (.bool false)) ∧ Code.ret = Code.ret ∧ (w'.setCell ⟨w.heap.size + 1, 0, none⟩ (.bool false)).heap[w.heap.size + 1]? = some (.cells #[.bool false] 4 (0, 0)) ∧
        (∃ y ∈ pre ++ [(x, Value.agg #[.int .i64 x.kind, .string ⟨x.name.toArray⟩, .slice ao x.kids.length cap])], nodeOk y.1 = false) ∧ Chg Nob w (w'.setCell ⟨w.heap.size + 1, 0, none⟩ (.bool false))) := fun hbad w' hw' => by
      have hset : Chg (fun k => k = w.heap.size + 1) w₂ (w'.setCell ⟨w.heap.size + 1, 0, none⟩ (.bool false)) := (hw'.any (S := fun k => k = w.heap.size + 1)).setCell (p := ⟨w.heap.size + 1, 0, none⟩) (fun _ => rfl) _
      exact ⟨Keeps.of_chg hset, rfl, block_one_set (hw'.at hres (fun e => e)), ⟨_, List.mem_append_right _ List.mem_cons_self, hbad⟩, hcw.trans hset (fun i hi e => by omega)⟩
    have Hyes : Hid (nodeOk x = true → ∀ w', Chg Nob w₂ w' → Keeps E9 w.heap.size (fun k => k = w.heap.size + 1) w₂ w' ∧ w'.heap[w.heap.size + 1]? = some (.cells #[.bool false] 4 (0, 0)) ∧
        (∀ y ∈ pre ++ [(x, Value.agg #[.int .i64 x.kind, .string ⟨x.name.toArray⟩, .slice ao x.kids.length cap])], nodeOk y.1 = true) ∧ Chg Nob w w') := fun hok w' hw' => by
      refine ⟨Keeps.of_chg (hw'.any), hw'.at hres (fun e => e), fun y hy => ?_, hcw.trans1 hw'⟩
      rcases List.mem_append.1 hy with hy | hy
      · exact h2 y hy
      · obtain rfl : y = _ := by simpa using hy
        exact hok
    have Hres := Lib.hid hres
    clear hbx hres hcw hc2 hst2 h1 h2 h3 hit hw2 hs2 hpre hcnt3 hw3 hs3
    have q0 := fun d os => cell_regrown c0 d os
    have q1 := fun d os => cell_regrown c1 d os
    have q2 := fun d os => cell_regrown c2 d os
    have hok : nodeOk x = okNode x.kind x.name x.kids.length := rfl
    rw [hok] at Hno Hyes
    clear hok c0 c1 c2
    cases hA : (kidsOf x.kind == (x.kids.length : Int)) with
    | false =>
      have hA2 : (kidsOf x.kind != (x.kids.length : Int)) = true := by rw [bne, hA]; rfl
      have Hbad : Hid (okNode x.kind x.name x.kids.length = false) := by
        show _ = _
        unfold okNode
        rw [decide_eq_false (beq_eq_false_iff_ne.1 hA)]; rfl
      gi_wp2_with fail
      refine quiet_below_round (by kernel_rfl) (by kernel_rfl) (by kernel_rfl) ?_
      repeat (go_big_quiet_step ((first | (go_at_call 95; exact regrown_same (kids_any _ _)) | (go_at_call 96; exact regrown_chg (isname_any _ _)))))
      refine wpQuiet_nil ?_
      intro _ hw'
      obtain ⟨⟨dq, osq⟩, hw''⟩ := hw'
      subst hw''
      clear q0 q1 q2
      have hcq := Chg.of_below (below_regrown w₂ dq osq)
      generalize grow (redrawn w₂ dq) osq = w5 at *
      have r0 := cell_row (hcq.at Hres.out (fun e => e)) 0 (v := .bool false) rfl
      have r1 : w5.frozen? ⟨w.heap.size + 1, 0, none⟩ = false := by simp [World.frozen?, hcq.at Hres.out (fun e => e)]
      gi_wp2
      exact ⟨(Hno.out Hbad.out w5 hcq).1, rfl, (Hno.out Hbad.out w5 hcq).2.2⟩
    | true =>
      have hA2 : (kidsOf x.kind != (x.kids.length : Int)) = false := by rw [bne, hA]; rfl
      cases h3 : (x.kind == 3) with
      | true =>
        have h32 : (x.kind != 3) = false := by rw [bne, h3]; rfl
        cases hN : nameB x.name with
        | false =>
          have Hbad : Hid (okNode x.kind x.name x.kids.length = false) := by
            show _ = _
            unfold okNode
            rw [if_pos (beq_iff_eq.1 h3), hN]; simp
          gi_wp2_with fail
          refine quiet_below_round (by kernel_rfl) (by kernel_rfl) (by kernel_rfl) ?_
          repeat (go_big_quiet_step ((first | (go_at_call 95; exact regrown_same (kids_any _ _)) | (go_at_call 96; exact regrown_chg (isname_any _ _)))))
          refine wpQuiet_nil ?_
          intro _ hw'
          obtain ⟨⟨dq, osq⟩, hw''⟩ := hw'
          subst hw''
          clear q0 q1 q2
          have hcq := Chg.of_below (below_regrown w₂ dq osq)
          generalize grow (redrawn w₂ dq) osq = w5 at *
          have r0 := cell_row (hcq.at Hres.out (fun e => e)) 0 (v := .bool false) rfl
          have r1 : w5.frozen? ⟨w.heap.size + 1, 0, none⟩ = false := by simp [World.frozen?, hcq.at Hres.out (fun e => e)]
          gi_wp2
          exact ⟨(Hno.out Hbad.out w5 hcq).1, rfl, (Hno.out Hbad.out w5 hcq).2.2⟩
        | true =>
          have Hok : Hid (okNode x.kind x.name x.kids.length = true) := by
            show _ = _
            unfold okNode
            rw [if_pos (beq_iff_eq.1 h3), hN, decide_eq_true (beq_iff_eq.1 hA)]; rfl
          gi_wp2_with fail
          refine quiet_below_round (by kernel_rfl) (by kernel_rfl) (by kernel_rfl) ?_
          repeat (go_big_quiet_step ((first | (go_at_call 95; exact regrown_same (kids_any _ _)) | (go_at_call 96; exact regrown_chg (isname_any _ _)))))
          refine wpQuiet_nil ?_
          intro _ hw'
          obtain ⟨⟨dq, osq⟩, hw''⟩ := hw'
          subst hw''
          clear q0 q1 q2
          have hcq := Chg.of_below (below_regrown w₂ dq osq)
          generalize grow (redrawn w₂ dq) osq = w5 at *
          gi_wp2
          exact Hyes.out Hok.out w5 hcq
      | false =>
        have h32 : (x.kind != 3) = true := by rw [bne, h3]; rfl
        cases hE : (x.name == []) with
        | false =>
          have hE2 : (x.name != []) = true := by rw [bne, hE]; rfl
          have hE3 : x.name.isEmpty = false := by
            cases hh : x.name with
            | nil => rw [hh] at hE; cases hE
            | cons _ _ => rfl
          have Hbad : Hid (okNode x.kind x.name x.kids.length = false) := by
            show _ = _
            unfold okNode
            rw [if_neg (beq_eq_false_iff_ne.1 h3), decide_eq_false (beq_eq_false_iff_ne.1 hE)]; simp
          cases hN : nameB x.name with
          | false =>
            gi_wp2_with fail
            refine quiet_below_round (by kernel_rfl) (by kernel_rfl) (by kernel_rfl) ?_
            repeat (go_big_quiet_step ((first | (go_at_call 95; exact regrown_same (kids_any _ _)) | (go_at_call 96; exact regrown_chg (isname_any _ _)))))
            refine wpQuiet_nil ?_
            intro _ hw'
            obtain ⟨⟨dq, osq⟩, hw''⟩ := hw'
            subst hw''
            clear q0 q1 q2
            have hcq := Chg.of_below (below_regrown w₂ dq osq)
            generalize grow (redrawn w₂ dq) osq = w5 at *
            have r0 := cell_row (hcq.at Hres.out (fun e => e)) 0 (v := .bool false) rfl
            have r1 : w5.frozen? ⟨w.heap.size + 1, 0, none⟩ = false := by simp [World.frozen?, hcq.at Hres.out (fun e => e)]
            gi_wp2
            exact ⟨(Hno.out Hbad.out w5 hcq).1, rfl, (Hno.out Hbad.out w5 hcq).2.2⟩
          | true =>
            gi_wp2_with fail
            refine quiet_below_round (by kernel_rfl) (by kernel_rfl) (by kernel_rfl) ?_
            repeat (go_big_quiet_step ((first | (go_at_call 95; exact regrown_same (kids_any _ _)) | (go_at_call 96; exact regrown_chg (isname_any _ _)))))
            refine wpQuiet_nil ?_
            intro _ hw'
            obtain ⟨⟨dq, osq⟩, hw''⟩ := hw'
            subst hw''
            clear q0 q1 q2
            have hcq := Chg.of_below (below_regrown w₂ dq osq)
            generalize grow (redrawn w₂ dq) osq = w5 at *
            have r0 := cell_row (hcq.at Hres.out (fun e => e)) 0 (v := .bool false) rfl
            have r1 : w5.frozen? ⟨w.heap.size + 1, 0, none⟩ = false := by simp [World.frozen?, hcq.at Hres.out (fun e => e)]
            gi_wp2
            exact ⟨(Hno.out Hbad.out w5 hcq).1, rfl, (Hno.out Hbad.out w5 hcq).2.2⟩
        | true =>
          have hE2 : (x.name != []) = false := by rw [bne, hE]; rfl
          have hE3 : x.name.isEmpty = true := by rw [beq_iff_eq.1 hE]; rfl
          have hN : nameB x.name = false := by rw [beq_iff_eq.1 hE]; rfl
          have Hok : Hid (okNode x.kind x.name x.kids.length = true) := by
            show _ = _
            unfold okNode
            rw [if_neg (beq_eq_false_iff_ne.1 h3), decide_eq_true (beq_iff_eq.1 hE), decide_eq_true (beq_iff_eq.1 hA)]; rfl
          have hE4 : x.name = [] := beq_iff_eq.1 hE
          rw [hE4] at q1 hN
          clear hE hE2 hE3
          gi_wp2_with fail
          refine quiet_below_round (by kernel_rfl) (by kernel_rfl) (by kernel_rfl) ?_
          repeat (go_big_quiet_step ((first | (go_at_call 95; exact regrown_same (kids_any _ _)) | (go_at_call 96; exact regrown_chg (isname_any _ _)))))
          refine wpQuiet_nil ?_
          intro _ hw'
          obtain ⟨⟨dq, osq⟩, hw''⟩ := hw'
          subst hw''
          clear q0 q1 q2
          have hcq := Chg.of_below (below_regrown w₂ dq osq)
          generalize grow (redrawn w₂ dq) osq = w5 at *
          gi_wp2
          exact Hyes.out Hok.out w5 hcq
  · rintro W ⟨h1, h2, h3⟩ hd
    have hm : mayT t = true := by
      rw [mayT_allT, List.all_eq_true]
      intro y hy
      rw [← Hall.out] at hy
      obtain ⟨z, hz, rfl⟩ := List.mem_map.1 hy
      exact h2 z hz
    have r0 := cell_row h1 0 (v := .bool false) rfl
    have r1 : W.frozen? ⟨w.heap.size + 1, 0, none⟩ = false := by simp [World.frozen?, h1]
    have hb1 := block_one_set (u := .bool true) h1
    have r2 := cell_row hb1 0 (v := .bool true) rfl
    have hcF : Chg Nob w (W.setCell ⟨w.heap.size + 1, 0, none⟩ (.bool true)) := h3.trans (S' := fun k => k = w.heap.size + 1) ((Chg.refl (fun k => k = w.heap.size + 1) _).setCell (p := ⟨w.heap.size + 1, 0, none⟩) (fun _ => rfl) _) (fun i hi e => by omega)
    have hdF : (W.setCell ⟨w.heap.size + 1, 0, none⟩ (.bool true)).heap[W3.heap.size]? = some (.deferred (some [])) := ((Chg.refl (fun k => k = w.heap.size + 1) W).setCell (p := ⟨w.heap.size + 1, 0, none⟩) (fun _ => rfl) (.bool true)).at hd (fun e => by omega)
    have Hm := Lib.hid hm
    have Hd := Lib.hid hdF
    have Hc := Lib.hid hcF
    have Hb1 := Lib.hid hb1
    clear hm hd hdF hcF hb1 h2 h3
    gi_wp2
    refine leaves_one Hd.out (fun W' hc' => ⟨_, results68 rfl (hc'.at Hb1.out (fun e => by have e : w.heap.size + 1 = W3.heap.size := e; omega)), by rw [Hm.out], Hc.out.trans hc' (fun i hi e => by have e : i = W3.heap.size := e; omega)⟩)
  · rintro c pre W hpre ⟨rfl, h1, ⟨y, hy, hbad⟩, h3⟩ hd
    have hm : mayT t = false := by
      rw [mayT_allT, Bool.eq_false_iff]
      intro h
      rw [List.all_eq_true] at h
      have := h y.1 (by rw [← Hall.out]; exact List.mem_map.2 ⟨y, hpre.subset hy, rfl⟩)
      rw [hbad] at this
      cases this
    have Hm := Lib.hid hm
    have H1 := Lib.hid h1
    have H3 := Lib.hid h3
    have Hd := Lib.hid hd
    clear hm h1 h3 hd
    gi_wp2
    refine leaves_one Hd.out (fun W' hc' => ⟨_, results68 rfl (hc'.at H1.out (fun e => by have e : w.heap.size + 1 = W3.heap.size := e; omega)), by rw [Hm.out], H3.out.trans hc' (fun i hi e => by have e : i = W3.heap.size := e; omega)⟩)

set_option maxRecDepth 100000 in
set_option maxHeartbeats 1000000 in
theorem check_any' (R : Nat → Prop) (t : T) (v : Value) (w : World) (ht : IsTree R w t v) (hN : sizeT t ≤ 1000000) (hR : ∀ b, R b → b < w.heap.size) :
    Calls Try.prog 37 #[v] w fun e w' => e = .returned (.int .i64 (checkN t)) ∧ Chg Nob w w' := by
  have Ht := Lib.hid ht
  obtain ⟨ao, cap, rfl, hlen, _⟩ := ht.parts
  clear ht
  go_enter Try.func37, Try.ntmps37
  go_wp2_with fail
  have hcW : Chg Nob w (w.alloc (.cells #[.int .i64 t.kind, .string ⟨t.name.toArray⟩, .slice ao t.kids.length cap] 37)) := (Chg.refl _ _).alloc _
  have hbox := heap_alloc_new w (.cells #[.int .i64 t.kind, .string ⟨t.name.toArray⟩, .slice ao t.kids.length cap] 37)
  have Hbox := Lib.hid hbox
  clear hbox
  generalize (w.alloc (.cells #[.int .i64 t.kind, .string ⟨t.name.toArray⟩, .slice ao t.kids.length cap] 37)) = W at *
  (with_reducible refine (made_any R t _ W (Ht.out.nob hcW) hN (fun b hb => Nat.lt_of_lt_of_le (hR b hb) hcW.size)).mono ?_)
  rintro e w1 ⟨rfl, hc1⟩
  cases hm : mayT t with
  | false =>
    have Hres : Hid (checkN t = 92) := if_pos hm
    go_wp2_with fail
    go_ret
    exact ⟨by rw [Hres.out]; rfl, hcW.trans1 hc1⟩
  | true =>
    obtain ⟨c0, c1, c2, _⟩ := cells_three (hc1.at Hbox.out (fun e => e))
    go_wp2_with fail
    (with_reducible refine (pdepth_any R t _ w1 (Ht.out.nob (hcW.trans1 hc1)) hN).mono ?_)
    rintro e w2 ⟨rfl, hc2⟩
    by_cases hd : 100 < depthT t
    · have hdi : (100 : Int) < (depthT t : Int) := by omega
      have Hres : Hid (checkN t = 93) := by show _ = _; unfold checkN; rw [hm, if_neg (by simp), if_pos hd]
      go_wp2_with fail
      go_ret
      exact ⟨by rw [Hres.out]; rfl, (hcW.trans1 hc1).trans1 hc2⟩
    · have hdi : ¬ (100 : Int) < (depthT t : Int) := by omega
      have Hres : Hid (checkN t = 0) := by show _ = _; unfold checkN; rw [hm, if_neg (by simp), if_neg hd]
      go_wp2_with fail
      go_ret
      exact ⟨by rw [Hres.out]; rfl, (hcW.trans1 hc1).trans1 hc2⟩
end Go.Proofs.Ytkgfdgfhpdhhaaa
