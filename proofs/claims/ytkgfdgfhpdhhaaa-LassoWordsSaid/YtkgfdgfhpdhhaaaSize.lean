/- How many parts a formula has. Conditions: as each theorem states. A region that draws its order, within a round of a range over a function. Conditions: as the theorems state. -/
import Derived.Test.YtkgfdgfhpdhhaaaParts
import Derived.Lib.QuietBelow
namespace Go.Proofs.Ytkgfdgfhpdhhaaa
open Go.ChangeShapes Go.WideShapes Go.RowKit Go.Shelf

attribute [local go_sem] Oper.semAt_some

theorem leaves_one {F : Fence} {n : Nat} {P : Program} {fn : Func} {tm : Array Value} {R : Ending → World → Prop} {D : Nat} {W : World} (hD : W.heap[D]? = some (.deferred (some [])))
    (h : ∀ W', Chg (At1 D) W W' → LeavesIn F n P fn tm R [] .returning W') : LeavesInM F n P fn tm R [{ target := .collected D, args := #[] }] .returning W :=
  ⟨by simp, .inl ⟨D, _, rfl, run_takeDeferred hD, h _ ⟨rfl, rfl, rfl, by simp, fun k _ hk => World.putObj_heap_other hk⟩⟩⟩
theorem IsTree.agg {R : Nat → Prop} {w : World} {t : T} {v : Value} (h : IsTree R w t v) : ∃ a b c, v = .agg #[a, b, c] := by
  obtain ⟨ao, cap, rfl, _⟩ := h.parts
  exact ⟨_, _, _, rfl⟩
/-- What the iterator over the parts promises to a function that has just been called. -/
theorem parts_of {n : Nat} (hn : 3 ≤ n) {R V0 : Nat → Prop} {t : T} {v a b c : Value} (hv : v = .agg #[a, b, c]) {w W : World} (ht : IsTree R w t v) (hN : sizeT t ≤ 1000000) (hR : ∀ b, R b → b < w.heap.size)
    (hW : Chg Nob w W) {B : Nat} (hB : W.heap.size = B) (hV : ∀ k, V0 k → w.heap.size ≤ k ∧ k < B) :
    Iter E9 w.heap.size n 97 #[.pointer (some ⟨B, 0, none⟩)] (fun (x : T × Value) => #[x.2]) V0 (preT (W.alloc (.cells #[a, b, c] 37)) t v) (W.alloc (.cells #[a, b, c] 37)) := by
  subst hB
  exact parts_iter w.heap.size n hn R V0 W.heap.size t v a b c hv _ (heap_alloc_new W _) (ht.nob (hW.alloc _)) hN (fun b hb => ⟨fun e => by have := hV b e; have := hR b hb; omega, hR b hb⟩) (fun e => by have := hV _ e; omega)
    (fun k hk => by have := hV k hk; rw [World.size_alloc]; omega) hW.size
theorem pre_length {w : World} {t : T} {v : Value} : (preT w t v).length = sizeT t := by
  have := congrArg List.length (preT_all w t v)
  rwa [List.length_map, allT_length] at this
theorem chg_steps {E : Nat → Prop} {n0 m : Nat} {w A B : World} (h : Chg Nob w A) (hs : Steps E n0 m A B) (hm : w.heap.size ≤ m) : Chg Nob w B :=
  Chg.trans h hs (fun i hi e => by have := e.1; omega)

set_option maxRecDepth 100000 in
set_option maxHeartbeats 2000000 in
theorem size_any (R : Nat → Prop) (t : T) (v : Value) (w : World) (ht : IsTree R w t v) (hN : sizeT t ≤ 1000000) (hR : ∀ b, R b → b < w.heap.size) :
    Calls Try.prog 56 #[v] w fun e w' => e = .returned (.int .i64 (min (sizeT t) 20001 : Nat)) ∧ Chg Nob w w' := by
  obtain ⟨a, b, c, hv⟩ := ht.agg
  have Ht := Lib.hid ht
  clear ht
  subst hv
  refine (callsIn_wide (n := 5)).1 (callsIn_of_wp_marks Try.func56 rfl trivial ?_ rfl)
  simp only [Try.ntmps56, List.size_toArray, List.length_cons, List.length_nil, Nat.reduceAdd, Nat.reduceSub, Array.replicate_succ, Array.replicate_zero, List.push_toArray, List.append_toArray, List.nil_append, List.cons_append]
  gi_wp2
  refine ⟨trivial, (callsIn_wide.2 (parts_any (.agg #[a, b, c]) a b c rfl _)).mono ?_⟩
  rintro e w1 ⟨rfl, rfl⟩
  gi_wp2
  have hw2 : Chg Nob w ((w.alloc (.cells #[a, b, c] 37)).alloc (.cells #[.int .i64 0] 3)) := ((Chg.refl _ _).alloc _).alloc _
  have hs2 : ((w.alloc (.cells #[a, b, c] 37)).alloc (.cells #[.int .i64 0] 3)).heap.size = w.heap.size + 1 + 1 := by simp
  have hit := parts_of (n := 4) (by omega) (V0 := fun k => k = w.heap.size + 1) (rfl : Value.agg #[a, b, c] = _) Ht.out hN hR hw2 hs2 (by rintro k rfl; omega)
  have hcnt := heap_alloc_new (w.alloc (.cells #[a, b, c] 37)) (.cells #[.int .i64 0] 3)
  rw [World.size_alloc] at hcnt
  have hcnt3 := ((Chg.refl Nob _).alloc (.cells #[a, b, c] 37)).at hcnt (fun e => e)
  have hxl : (preT (((w.alloc (.cells #[a, b, c] 37)).alloc (.cells #[.int .i64 0] 3)).alloc (.cells #[a, b, c] 37)) t (.agg #[a, b, c])).length = sizeT t := pre_length
  have hw3 : Chg Nob w (((w.alloc (.cells #[a, b, c] 37)).alloc (.cells #[.int .i64 0] 3)).alloc (.cells #[a, b, c] 37)) := hw2.alloc _
  have hs3 : (((w.alloc (.cells #[a, b, c] 37)).alloc (.cells #[.int .i64 0] 3)).alloc (.cells #[a, b, c] 37)).heap.size = w.heap.size + 3 := by simp
  clear hcnt
  generalize (((w.alloc (.cells #[a, b, c] 37)).alloc (.cells #[.int .i64 0] 3)).alloc (.cells #[a, b, c] 37)) = W3 at *
  refine range_iter (E := E9) (n0 := w.heap.size) (gf := 97) (by omega) rfl (enters_of Try.func97 (by kernel_rfl) rfl) hit (by rintro k rfl; omega) (fun _ => rfl)
    (fun pre W => W.heap[w.heap.size + 1]? = some (.cells #[.int .i64 pre.length] 3 (0, 0)) ∧ pre.length ≤ 20000 ∧ Chg Nob w W)
    (fun c pre W => c = .exit 0 ∧ W.heap[w.heap.size + 1]? = some (.cells #[.int .i64 20001] 3 (0, 0)) ∧ pre.length = 20001 ∧ Chg Nob w W) ?_ ?_ ⟨hcnt3, Nat.zero_le _, hw3⟩ ?_ ?_ ?_
  · rintro pre A B ⟨h1, h2, h3⟩ hs
    exact ⟨Chg.at hs h1 (fun e => by have := e.1; omega), h2, chg_steps h3 hs (by omega)⟩
  · rintro c pre A B ⟨h0, h1, h2, h3⟩ hs
    exact ⟨h0, Chg.at hs h1 (fun e => by have := e.1; omega), h2, chg_steps h3 hs (by omega)⟩
  · rintro l pre x W ⟨h1, h2, h3⟩ hpre hsz
    simp only [zip1, List.setIfInBounds_toArray, List.set_cons_succ, List.set_cons_zero]
    gi_wp2
    refine ⟨Keeps.refl _ _ _ _, fun w₂ hc2 hs2 => ?_⟩
    have hcell := Chg.at hs2 h1 (fun e => by have := e.1; omega)
    have k0 := cell_row hcell 0 (v := .int .i64 pre.length) rfl
    have k1 : w₂.frozen? ⟨w.heap.size + 1, 0, none⟩ = false := by simp [World.frozen?, hcell]
    have hw4 := chg_steps h3 hs2 (by omega)
    have hset : Chg (fun k => k = w.heap.size + 1) w₂ (w₂.setCell ⟨w.heap.size + 1, 0, none⟩ (.int .i64 ((pre ++ [x]).length : Int))) := (Chg.refl (fun k => k = w.heap.size + 1) w₂).setCell (p := ⟨w.heap.size + 1, 0, none⟩) (fun _ => rfl) _
    have hset2 : Chg Nob w (w₂.setCell ⟨w.heap.size + 1, 0, none⟩ (.int .i64 ((pre ++ [x]).length : Int))) := hw4.trans hset (fun i hi e => by omega)
    have hbl := block_one_set (u := .int .i64 ((pre ++ [x]).length : Int)) hcell
    have hcl := cell_row hbl 0 (v := _) rfl
    have el : (((pre ++ [x]).length : Nat) : Int) = (pre.length : Int) + 1 := by rw [List.length_append]; simp
    have ew : wrap64 ((pre.length : Int) + 1) = (pre.length : Int) + 1 := by unfold wrap64; omega
    rw [el] at hset hset2 hbl hcl
    have Hbl := Lib.hid hbl
    have Hset := Lib.hid hset
    have Hset2 := Lib.hid hset2
    have Hel := Lib.hid el
    clear hbl hset hset2 el
    rcases Nat.lt_or_ge pre.length 20000 with hlt | hge
    · have h2' : ¬ (20000 : Int) < (pre.length : Int) + 1 := by omega
      gi_wp2
      exact ⟨Keeps.of_chg Hset.out, by rw [Hel.out]; exact Hbl.out, by rw [List.length_append]; simp; omega, Hset2.out⟩
    · have h2' : (20000 : Int) < (pre.length : Int) + 1 := by omega
      have e9 : pre.length = 20000 := by omega
      gi_wp2
      have j1 := Hset.out
      have j2 := Hset2.out
      have j3 := Hbl.out
      rw [e9] at j1 j2 j3
      exact ⟨Keeps.of_chg j1, rfl, j3, by rw [List.length_append]; simp; omega, j2⟩
  · rintro W ⟨h1, h2, h3⟩ hd
    have k0 := cell_row h1 0 (v := _) rfl
    have hmin : min (sizeT t) 20001 = sizeT t := by rw [hxl] at h2; omega
    rw [hxl] at k0
    have Hm := Lib.hid hmin
    have Hxl := Lib.hid hxl
    clear hmin hxl
    gi_wp2
    refine leaves_one hd (fun W' hc' => ⟨_, results_tmp rfl _ _ _, ?_, h3.trans hc' (fun i hi e => by have e : i = _ := e; omega)⟩)
    rw [Hm.out]; rfl
  · rintro c pre W hpre ⟨rfl, h1, h2, h3⟩ hd
    have k0 := cell_row h1 0 (v := _) rfl
    have hmin : min (sizeT t) 20001 = 20001 := by have := hpre.length_le; rw [hxl] at this; omega
    have Hm := Lib.hid hmin
    clear hmin
    gi_wp2
    refine leaves_one hd (fun W' hc' => ⟨_, results_tmp rfl _ _ _, ?_, h3.trans hc' (fun i hi e => by have e : i = _ := e; omega)⟩)
    rw [Hm.out]; rfl
end Go.Proofs.Ytkgfdgfhpdhhaaa
namespace Go.Proofs.Ytkgfdgfhpdhhaaa
open Go.ChangeShapes Go.WideShapes Go.RowKit Go.Shelf Go.Sort

theorem rowsIn_round {l n : Nat} {P : Program} {row : String} {args : Array Value} {w : World} {R : Value → World → Prop} (h : Rows P row args w R) : RowsIn (Fence.wide.inRound l) n P row args w R := by
  intro c cs _
  obtain ⟨v, w', r, s⟩ := h c cs
  exact ⟨v, w', r, stepsIn_wide.2 s⟩
theorem op_round {l n : Nat} {P : Program} {o : Oper} {a : Act} {w : World} {K : Act → World → Prop} {Q : Exit → Act → World → Prop} (hd : ∀ c, o.op ≠ .defer c) (h : o.wp P a w K Q) : o.wpIn (Fence.wide.inRound l) n P a w K Q := by
  refine ⟨fun _ _ => trivial, ?_⟩
  rw [Oper.semAt_eq _ _ _ hd]
  unfold Oper.wp at h
  generalize (execOp a.eval o).run P w = r at *
  cases r with
  | ok x w' =>
    cases x with
    | value v => exact h
    | skip => exact h
    | defer d => exact h
    | enter f args => exact ⟨fun e => (by cases e), CallsIn.inRound l (callsIn_wide.2 h)⟩
    | row row args => exact ⟨fun e => (by cases e), rowsIn_round h⟩
    | _ => exact h.elim
  | halt x w' => cases x <;> exact h
def noDefer (o : Oper) : Bool := match o.op with | .defer _ => false | _ => true
theorem noDefer_of {o : Oper} (h : noDefer o = true) : ∀ c, o.op ≠ .defer c := by
  intro c e
  unfold noDefer at h
  rw [e] at h
  cases h
theorem opAt_round {l n : Nat} {P : Program} {ops : Array Oper} {C : World → Prop} {Q : Exit → Act → World → Prop} {i : Nat} {K : Act → Prop} {K' : Act → World → Prop} {a : Act} {w : World} (hd : ∀ (i : Nat) (o : Oper), ops[i]? = some o → noDefer o = true)
    (hC : C w) (hk : ∀ a w', C w' → K a → K' a w') (h : qOp P ops C i K a) : wpOpIn (Fence.wide.inRound l) n P ops Q i K' a w := by
  unfold qOp at h
  unfold wpOpIn
  cases ho : ops[i]? with
  | none => rw [ho] at h; exact hk _ _ hC h
  | some o =>
    rw [ho] at h
    dsimp only at h ⊢
    split
    · rename_i hw; rw [if_pos hw] at h; exact op_round (noDefer_of (hd i o ho)) (Oper.wp_of_quiet hC hk h)
    · rename_i hw; rw [if_neg hw] at h; exact ⟨fun _ _ => trivial, hk _ _ hC h⟩
theorem any_round {l n : Nat} {P : Program} {md : Region.Mode} {ops : Array Oper} {C : World → Prop} {Q : Act → Prop} {Q' : Exit → Act → World → Prop} (hd : ∀ (i : Nat) (o : Oper), ops[i]? = some o → noDefer o = true) (hQ : ∀ a w, C w → Q a → Q' .normal a w) :
    ∀ (fuel : Nat) (listed : Array Bool) (a : Act) (w : World), C w → wpAnyQ P md ops C Q fuel listed a → wpAnyIn (Fence.wide.inRound l) n P md ops Q' fuel listed a w
  | 0, _, _, _, hw, h => ⟨h.1, hQ _ _ hw h.2⟩
  | fuel + 1, _, _, _, hw, h => ⟨fun h0 => hQ _ _ hw (h.1 h0), fun i hi => opAt_round hd hw (fun a' w' hw' h' => any_round hd hQ fuel _ a' w' hw' h') (h.2 i hi)⟩
theorem quiet_below_round {l n id : Nat} {P : Program} {Q : Exit → Act → World → Prop} {a : Act} {w : World} {ops : List Oper} (hm : P.follows .mixedOrders = true) (hd : ops.all noDefer = true) (hB : Region.lexB .any ops.toArray = true)
    (h : wpQuiet P ops.toArray (fun w' => ∃ p : Regrown, w' = grow (redrawn w p.d) p.os) (fun a' => ∀ w', (∃ p : Regrown, w' = grow (redrawn w p.d) p.os) → Q .normal a' w') ops a) : (Code.region id ops.toArray true).wpIn (Fence.wide.inRound l) n P Q a w := by
  simp only [Region.lexB, Bool.and_eq_true] at hB
  have hd' : ∀ (i : Nat) (o : Oper), ops.toArray[i]? = some o → noDefer o = true := fun i o ho => List.all_eq_true.1 hd o (by rw [List.getElem?_toArray] at ho; exact List.mem_of_getElem? ho)
  refine wpIn_region_any hm (any_round (C := fun w' => ∃ p : Regrown, w' = grow (redrawn w p.d) p.os) (Q := fun a' => ∀ w', (∃ p : Regrown, w' = grow (redrawn w p.d) p.os) → Q .normal a' w') hd' (fun _ w' hw' h => h w' hw') _ _ _ _ ⟨⟨w.drawn + 1, #[]⟩, by rw [grow_empty]; rfl⟩ ?_)
  have := wpAnyQ_lex (C := fun w' => ∃ p : Regrown, w' = grow (redrawn w p.d) p.os) (md := .any) hB.1 ops 0 (Array.replicate ops.toArray.size false) a (by simp) (by simpa using hB.2) h
  simpa using this
/-- A callee that leaves what was there as it was, met in a world of the class. -/
theorem regrown_chg {P : Program} {f : FuncId} {args : Array Value} {w : World} {d : Nat} {os : Array Obj} {v : Value}
    (h : Calls P f args (grow (redrawn w d) os) fun e w' => e = .returned v ∧ Chg Nob (grow (redrawn w d) os) w') : Calls P f args (grow (redrawn w d) os) fun e w'' => e = .returned v ∧ ∃ p : Regrown, w'' = grow (redrawn w p.d) p.os :=
  Calls.regrown_of (h.mono fun _ _ ⟨he, hc⟩ => ⟨he, hc.toBelow⟩)
theorem regrown_same {P : Program} {f : FuncId} {args : Array Value} {w : World} {d : Nat} {os : Array Obj} {v : Value}
    (h : Calls P f args (grow (redrawn w d) os) (Rets v (grow (redrawn w d) os))) : Calls P f args (grow (redrawn w d) os) fun e w'' => e = .returned v ∧ ∃ p : Regrown, w'' = grow (redrawn w p.d) p.os :=
  regrown_chg (h.mono fun _ _ ⟨he, hc⟩ => ⟨he, by rw [← hc]; exact Chg.refl _ _⟩)
end Go.Proofs.Ytkgfdgfhpdhhaaa
