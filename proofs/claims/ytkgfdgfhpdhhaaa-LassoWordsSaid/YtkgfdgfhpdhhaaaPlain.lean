/- Whether negations stand at propositions alone, by the program. Conditions: the tree lies in the world, it is not too great. -/
import Derived.Test.YtkgfdgfhpdhhaaaMade
namespace Go.Proofs.Ytkgfdgfhpdhhaaa
open Go.ChangeShapes Go.WideShapes Go.RowKit Go.Shelf Go.Sort

attribute [local go_sem] Oper.semAt_some

def headK : List T → Int
  | [] => 0
  | a :: _ => a.kind
def plainOk (t : T) : Bool := if t.kind = 6 ∨ t.kind = 7 ∨ t.kind = 10 ∨ t.kind = 11 ∨ t.kind = 14 then false else if t.kind = 4 then decide (headK t.kids = 3) else true
def AllOk (p : T → Bool) (pre : List (T × Value)) : Prop := ∀ x ∈ pre, p x.1 = true
def SomeBad (p : T → Bool) (pre : List (T × Value)) : Prop := ∃ x ∈ pre, p x.1 = false
def IsRet (c : Code) : Prop := c = .ret
def plainB (t : T) : Bool := mayT t && (allT t).all plainOk

set_option maxRecDepth 100000 in
theorem results39 {rb : Nat} {tm : Array Value} {w : World} {x : Bool} (h2 : tm[2]? = some (.pointer (some ⟨rb, 0, none⟩))) (hb : w.heap[rb]? = some (.cells #[.bool x] 4 (0, 0))) : (results Try.f39 tm).run Try.prog w = .ok (.bool x) w := by
  have c0 := cell_row hb 0 (v := .bool x) rfl
  simp [results, Try.results39, go_sem, h2, c0]
set_option maxRecDepth 100000 in
set_option maxHeartbeats 4000000 in
theorem plain_any (R : Nat → Prop) (t : T) (v : Value) (w : World) (ht : IsTree R w t v) (hN : sizeT t ≤ 1000000) (hR : ∀ b, R b → b < w.heap.size) :
    Calls Try.prog 39 #[v] w fun e w' => e = .returned (.bool (plainB t)) ∧ Chg Nob w w' := by
  obtain ⟨a, b, c, hv⟩ := ht.agg
  have Ht := Lib.hid ht
  clear ht
  subst hv
  refine (callsIn_wide (n := 5)).1 (callsIn_of_wp_marks Try.func39 rfl trivial ?_ rfl)
  simp only [Try.ntmps39, List.size_toArray, List.length_cons, List.length_nil, Nat.reduceAdd, Nat.reduceSub, Array.replicate_succ, Array.replicate_zero, List.push_toArray, List.append_toArray, List.nil_append, List.cons_append]
  gi_wp2
  have hW0 : Chg Nob w ((w.alloc (.cells #[a, b, c] 37)).alloc (.cells #[.bool false] 4)) := ((Chg.refl _ _).alloc _).alloc _
  have hbx := ((Chg.refl Nob _).alloc (.cells #[.bool false] 4)).at (heap_alloc_new w (.cells #[a, b, c] 37)) (fun e => e)
  have hcnt := heap_alloc_new (w.alloc (.cells #[a, b, c] 37)) (.cells #[.bool false] 4)
  have hs0 : ((w.alloc (.cells #[a, b, c] 37)).alloc (.cells #[.bool false] 4)).heap.size = w.heap.size + 2 := by simp
  rw [World.size_alloc] at hcnt
  generalize (w.alloc (.cells #[a, b, c] 37)).alloc (.cells #[.bool false] 4) = W0 at *
  refine ⟨trivial, (callsIn_wide.2 (made_any R t _ W0 (Ht.out.nob hW0) hN (fun b hb => by have := hR b hb; omega))).mono ?_⟩
  rintro e w0 ⟨rfl, hc0⟩
  have hcw0 := hW0.trans1 hc0
  have hbx0 := hc0.at hbx (fun e => e)
  have hcnt0 := hc0.at hcnt (fun e => e)
  have hs00 := hc0.size
  clear hbx hcnt
  cases hm : mayT t with
  | false =>
    have r0 := cell_row hcnt0 0 (v := .bool false) rfl
    have r1 : w0.frozen? ⟨w.heap.size + 1, 0, none⟩ = false := by simp [World.frozen?, hcnt0]
    have Hp : Hid (plainB t = false) := (show plainB t = false by unfold plainB; rw [hm]; rfl)
    have Hb := Lib.hid (block_one_set (u := .bool false) hcnt0)
    have hcF : Chg Nob w (w0.setCell ⟨w.heap.size + 1, 0, none⟩ (.bool false)) := hcw0.trans (S' := fun k => k = w.heap.size + 1) ((Chg.refl (fun k => k = w.heap.size + 1) _).setCell (p := ⟨w.heap.size + 1, 0, none⟩) (fun _ => rfl) _) (fun i hi e => by omega)
    have HcF := Lib.hid hcF
    clear hcF hbx0 hcnt0
    gi_wp2
    exact ⟨_, results39 rfl Hb.out, by rw [Hp.out], HcF.out⟩
  | true =>
    obtain ⟨x0, x1, x2, _⟩ := cells_three hbx0
    gi_wp2
    refine ⟨trivial, (callsIn_wide.2 (parts_any (.agg #[a, b, c]) a b c rfl _)).mono ?_⟩
    rintro e w1 ⟨rfl, rfl⟩
    have hit := parts_of (n := 4) (by omega) (V0 := fun k => k = w.heap.size + 1) (rfl : Value.agg #[a, b, c] = _) Ht.out hN hR hcw0 (rfl : w0.heap.size = w0.heap.size) (by rintro k rfl; omega)
    have hcnt3 := ((Chg.refl Nob _).alloc (.cells #[a, b, c] 37)).at hcnt0 (fun e => e)
    have hw3 : Chg Nob w (w0.alloc (.cells #[a, b, c] 37)) := hcw0.alloc _
    have hs3 : w.heap.size + 2 < (w0.alloc (.cells #[a, b, c] 37)).heap.size := by rw [World.size_alloc]; omega
    have htr := preT_tree t (.agg #[a, b, c]) (Ht.out.nob hw3)
    have hall := preT_all (w0.alloc (.cells #[a, b, c] 37)) t (.agg #[a, b, c])
    clear hcnt0 hbx0 hc0 hs00 hs0 hW0 x0 x1 x2
    gi_wp2
    generalize w0.alloc (.cells #[a, b, c] 37) = W3 at *
    have Htr := Lib.hid htr
    have Hall := Lib.hid hall
    have Hm := Lib.hid hm
    clear htr hall hm
    refine range_iter (E := E9) (n0 := w.heap.size) (gf := 97) (by omega) rfl (enters_of Try.func97 (by kernel_rfl) rfl) hit (by rintro k rfl; omega) (fun _ => rfl)
      (fun pre W => W.heap[w.heap.size + 1]? = some (.cells #[.bool false] 4 (0, 0)) ∧ AllOk plainOk pre ∧ Chg Nob w W)
      (fun c pre W => IsRet c ∧ W.heap[w.heap.size + 1]? = some (.cells #[.bool false] 4 (0, 0)) ∧ SomeBad plainOk pre ∧ Chg Nob w W) ?_ ?_ ⟨hcnt3, (fun _ h => by cases h), hw3⟩ ?_ ?_ ?_
    · rintro pre A B ⟨h1, h2, h3⟩ hs
      exact ⟨Chg.at hs h1 (fun e => by have := e.1; omega), h2, chg_steps h3 hs (by omega)⟩
    · rintro c pre A B ⟨h0, h1, h2, h3⟩ hs
      exact ⟨h0, Chg.at hs h1 (fun e => by have := e.1; omega), h2, chg_steps h3 hs (by omega)⟩
    · rintro l pre ⟨x, xv⟩ W ⟨h1, h2, h3⟩ hpre hsz
      have hxm : (x, xv) ∈ preT W3 t (.agg #[a, b, c]) := hpre.subset (by simp)
      have htx : IsTree R W3 x xv := Htr.out _ hxm
      have hnode : nodeOk x = true := by
        have h := Hm.out
        rw [mayT_allT, List.all_eq_true] at h
        exact h x (by rw [← Hall.out]; exact List.mem_map.2 ⟨_, hxm, rfl⟩)
      obtain ⟨ao, cap, rfl, hxl, _⟩ := htx.parts
      have Htx := Lib.hid htx
      have Hnode := Lib.hid hnode
      clear htx hxm hnode
      simp only [zip1, List.setIfInBounds_toArray, List.set_cons_succ, List.set_cons_zero]
      gi_wp2
      refine ⟨Keeps.of_chg ((Chg.refl _ _).alloc _), fun w₂ hc2 hst2 => ?_⟩
      have hbx := Chg.at hc2 (heap_alloc_new W _) (fun e => by have e : W.heap.size = W3.heap.size + 1 := e; omega)
      obtain ⟨c0, c1, c2, _⟩ := cells_three hbx
      have hres := Chg.at hc2 (((Chg.refl Nob W).alloc (.cells #[.int .i64 x.kind, .string ⟨x.name.toArray⟩, .slice ao x.kids.length cap] 37)).at h1 (fun e => e)) (fun e => by have e : w.heap.size + 1 = W3.heap.size + 1 := e; omega)
      have hcw : Chg Nob w w₂ := chg_steps (h3.alloc _) hst2 (by omega)
      have Hno : Hid (plainOk x = false → Keeps E9 w.heap.size (fun k => k = w.heap.size + 1) w₂ (w₂.setCell ⟨w.heap.size + 1, 0, none⟩ (.bool false)) ∧ IsRet Code.ret ∧ (w₂.setCell ⟨w.heap.size + 1, 0, none⟩ (.bool false)).heap[w.heap.size + 1]? = some (.cells #[.bool false] 4 (0, 0)) ∧
          SomeBad plainOk (pre ++ [(x, Value.agg #[.int .i64 x.kind, .string ⟨x.name.toArray⟩, .slice ao x.kids.length cap])]) ∧ Chg Nob w (w₂.setCell ⟨w.heap.size + 1, 0, none⟩ (.bool false))) := fun hbad => by
        have hset : Chg (fun k => k = w.heap.size + 1) w₂ (w₂.setCell ⟨w.heap.size + 1, 0, none⟩ (.bool false)) := (Chg.refl (fun k => k = w.heap.size + 1) w₂).setCell (p := ⟨w.heap.size + 1, 0, none⟩) (fun _ => rfl) _
        exact ⟨Keeps.of_chg hset, rfl, block_one_set hres, ⟨_, List.mem_append_right _ List.mem_cons_self, hbad⟩, hcw.trans hset (fun i hi e => by omega)⟩
      have Hyes : Hid (plainOk x = true → Keeps E9 w.heap.size (fun k => k = w.heap.size + 1) w₂ w₂ ∧ w₂.heap[w.heap.size + 1]? = some (.cells #[.bool false] 4 (0, 0)) ∧
          AllOk plainOk (pre ++ [(x, Value.agg #[.int .i64 x.kind, .string ⟨x.name.toArray⟩, .slice ao x.kids.length cap])]) ∧ Chg Nob w w₂) := fun hok => by
        refine ⟨Keeps.of_chg (Chg.refl _ _), hres, fun y hy => ?_, hcw⟩
        rcases List.mem_append.1 hy with hy | hy
        · exact h2 y hy
        · obtain rfl : y = _ := by simpa using hy
          exact hok
      have r0 := cell_row hres 0 (v := .bool false) rfl
      have r1 : w₂.frozen? ⟨w.heap.size + 1, 0, none⟩ = false := by simp [World.frozen?, hres]
      have Hkid : Hid (∀ y ys, x.kids = y :: ys → ∃ g o, ao = some ⟨g, o, none⟩ ∧ w₂.cell? ⟨g, o, none⟩ = some (.int .i64 y.kind)) := fun y ys e => by
        obtain ⟨_, _, e2, _, hkk⟩ := Htx.out.parts
        cases e2
        obtain ⟨g, o, ak, capk, hao, hRg, p0, _⟩ := hkk.kid (j := 0) (t := y) (by rw [e]; rfl)
        refine ⟨g, o, hao, ?_⟩
        rw [Nat.zero_mul, Nat.add_zero] at p0
        have hg := hR g hRg
        have q := hw3.cell (a := ⟨g, o, none⟩) hg (fun e => e)
        rw [hcw.cell (a := ⟨g, o, none⟩) hg (fun e => e), ← q]
        exact p0
      clear hbx hres hcw hc2 hst2 h1 h2 h3 hit hpre hcnt3 hw3 hs3
      cases hA : decide (x.kind = 6 ∨ x.kind = 7 ∨ x.kind = 10 ∨ x.kind = 11 ∨ x.kind = 14) with
      | true =>
        have hA := of_decide_eq_true hA
        have Hbad : Hid (plainOk x = false) := (show plainOk x = false from if_pos hA)
        have hor : Hid (x.kind = 6 ∨ x.kind = 7 ∨ x.kind = 10 ∨ x.kind = 11 ∨ x.kind = 14) := hA
        clear hA
        obtain ⟨k, hk⟩ : ∃ k, k = x.kind := ⟨_, rfl⟩
        have Hk := Lib.hid hk
        rw [← hk] at c0
        have hor' : k = 6 ∨ k = 7 ∨ k = 10 ∨ k = 11 ∨ k = 14 := by rw [hk]; exact hor.out
        clear hk
        rcases hor' with rfl | rfl | rfl | rfl | rfl
        all_goals
          gi_wp2
          exact Hno.out Hbad.out
      | false =>
        have hA := of_decide_eq_false hA
        have k6 : (x.kind == 6) = false := by rw [beq_eq_false_iff_ne]; omega
        have k7 : (x.kind == 7) = false := by rw [beq_eq_false_iff_ne]; omega
        have k10 : (x.kind == 10) = false := by rw [beq_eq_false_iff_ne]; omega
        have k11 : (x.kind == 11) = false := by rw [beq_eq_false_iff_ne]; omega
        have k14 : (x.kind == 14) = false := by rw [beq_eq_false_iff_ne]; omega
        have HA := Lib.hid hA
        clear hA
        cases h4 : (x.kind == 4) with
        | false =>
          have Hok : Hid (plainOk x = true) := (show plainOk x = true by unfold plainOk; rw [if_neg HA.out, if_neg (beq_eq_false_iff_ne.1 h4)])
          gi_wp2
          exact Hyes.out Hok.out
        | true =>
          have h44 := beq_iff_eq.1 h4
          have hlen1 : x.kids.length = 1 := by
            have h := Hnode.out
            unfold nodeOk okNode at h
            rw [Bool.and_eq_true] at h
            have := of_decide_eq_true h.1
            rw [h44] at this
            have e : kidsOf 4 = 1 := rfl
            rw [e] at this
            omega
          obtain ⟨y, ys, hkids⟩ : ∃ y ys, x.kids = y :: ys := by
            cases hh : x.kids with
            | nil => rw [hh] at hlen1; cases hlen1
            | cons y ys => exact ⟨y, ys, rfl⟩
          obtain ⟨g, o, rfl, hy0⟩ := Hkid.out y ys hkids
          rw [hlen1] at c2
          have Hhd : Hid (headK x.kids = y.kind) := (show headK x.kids = y.kind by rw [hkids]; rfl)
          have H44 := Lib.hid h44
          clear hkids hlen1 h44 hxl
          cases h3 : (y.kind == 3) with
          | true =>
            have h32 : (y.kind != 3) = false := by rw [bne, h3]; rfl
            have Hok : Hid (plainOk x = true) := (show plainOk x = true by unfold plainOk; rw [if_neg HA.out, if_pos H44.out, Hhd.out, decide_eq_true (beq_iff_eq.1 h3)])
            gi_wp2
            exact Hyes.out Hok.out
          | false =>
            have h32 : (y.kind != 3) = true := by rw [bne, h3]; rfl
            have Hbad : Hid (plainOk x = false) := (show plainOk x = false by unfold plainOk; rw [if_neg HA.out, if_pos H44.out, Hhd.out, decide_eq_false (beq_eq_false_iff_ne.1 h3)])
            gi_wp2
            exact Hno.out Hbad.out
    · rintro W ⟨h1, h2, h3⟩ hd
      have hp : plainB t = true := by
        unfold plainB
        rw [Hm.out, Bool.true_and, List.all_eq_true]
        intro y hy
        rw [← Hall.out] at hy
        obtain ⟨z, hz, rfl⟩ := List.mem_map.1 hy
        exact h2 z hz
      have r0 := cell_row h1 0 (v := .bool false) rfl
      have r1 : W.frozen? ⟨w.heap.size + 1, 0, none⟩ = false := by simp [World.frozen?, h1]
      have hb1 := block_one_set (u := .bool true) h1
      have r2 := cell_row hb1 0 (v := .bool true) rfl
      have hcF : Chg Nob w (W.setCell ⟨w.heap.size + 1, 0, none⟩ (.bool true)) := h3.trans (S' := fun k => k = w.heap.size + 1) ((Chg.refl (fun k => k = w.heap.size + 1) _).setCell (p := ⟨w.heap.size + 1, 0, none⟩) (fun _ => rfl) _) (fun i hi e => by omega)
      have hdF : (W.setCell ⟨w.heap.size + 1, 0, none⟩ (.bool true)).heap[W3.heap.size]? = some (.deferred (some [])) := ((Chg.refl (fun k => k = w.heap.size + 1) W).setCell (p := ⟨w.heap.size + 1, 0, none⟩) (fun _ => rfl) (.bool true)).at hd (fun e => by omega)
      have Hp := Lib.hid hp
      have Hd := Lib.hid hdF
      have Hc := Lib.hid hcF
      have Hb1 := Lib.hid hb1
      clear hp hd hdF hcF hb1 h2 h3
      gi_wp2
      refine leaves_one Hd.out (fun W' hc' => ⟨_, results39 rfl (hc'.at Hb1.out (fun e => by have e : w.heap.size + 1 = W3.heap.size := e; omega)), by rw [Hp.out], Hc.out.trans hc' (fun i hi e => by have e : i = W3.heap.size := e; omega)⟩)
    · rintro c pre W hpre ⟨rfl, h1, ⟨y, hy, hbad⟩, h3⟩ hd
      have hp : plainB t = false := by
        unfold plainB
        rw [Hm.out, Bool.true_and, Bool.eq_false_iff]
        intro h
        rw [List.all_eq_true] at h
        have := h y.1 (by rw [← Hall.out]; exact List.mem_map.2 ⟨y, hpre.subset hy, rfl⟩)
        rw [hbad] at this
        cases this
      have Hp := Lib.hid hp
      have H1 := Lib.hid h1
      have H3 := Lib.hid h3
      have Hd := Lib.hid hd
      clear hp h1 h3 hd
      gi_wp2
      refine leaves_one Hd.out (fun W' hc' => ⟨_, results39 rfl (hc'.at H1.out (fun e => by have e : w.heap.size + 1 = W3.heap.size := e; omega)), by rw [Hp.out], H3.out.trans hc' (fun i hi e => by have e : i = W3.heap.size := e; omega)⟩)
end Go.Proofs.Ytkgfdgfhpdhhaaa
