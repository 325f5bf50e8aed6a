/- A row of formulas that grows, kept in a call's own slot. Conditions: as each theorem states. The reference's Plain, of plain formulas. Conditions: the formula lies in the world. The reference's names, as they stand. Conditions: the formula lies in the world, it is not too great. The reference's HasNext. Conditions: the formula lies in the world. The reference's Names: a row of the names, none twice. Conditions: the formula lies in the world, it is not too great. The law's subset: whether all of some texts are among others. Condition: they are. -/
import Derived.Test.YtkgfdgfhpdhhaaaGreatWa
import Derived.Test.YtkgfdgfhpdhhaaaGreatTi
namespace Go.Proofs.YtkgfdgfhpdhhaaaGreat
open Go.ChangeShapes Go.WideShapes Go.RowKit
open PL (F)

theorem flat_at {vs : List Value} (hv : ∀ v ∈ vs, (vc v).length = 3) : ∀ {i : Nat} {v : Value}, vs[i]? = some v → ∀ {q : Nat}, q < 3 → (vs.flatMap vc)[i * 3 + q]? = (vc v)[q]? := by
  induction vs with
  | nil => intro i v h; simp at h
  | cons x vs ih =>
    intro i v h q hq
    rw [List.flatMap_cons]
    have h3 := hv x List.mem_cons_self
    cases i with
    | zero =>
      obtain rfl : x = v := by simpa using h
      rw [Nat.zero_mul, Nat.zero_add, List.getElem?_append_left (by omega)]
    | succ i =>
      rw [List.getElem?_append_right (by omega), h3, show (i + 1) * 3 + q - 3 = i * 3 + q by omega]
      exact ih (fun v hv' => hv v (List.mem_cons_of_mem _ hv')) (by simpa using h) hq
theorem kids_of_row {R : Nat → Prop} {W : World} {kids : List T} {vs : List Value} {B0 n : Nat} {sl : Value} (hrow : W.ownsRow B0 24 3 sl n (vs.flatMap vc)) (hl : vs.length = n) (hkl : kids.length = n)
    (ht : ∀ (i : Nat) (t : T) (v : Value), kids[i]? = some t → vs[i]? = some v → IsTree R W t v) (hg : ∀ g, sl.ownBlock = some g → R g) : ∃ ao cap, sl = .slice ao n cap ∧ IsKids R W ao 0 kids := by
  obtain ⟨ao, cap, rfl⟩ := ownsRow_shape hrow
  refine ⟨ao, cap, rfl, IsKids.mk kids 0 (fun j t hj => ?_)⟩
  have hjn : j < n := by rw [← hkl]; exact (List.getElem?_eq_some_iff.1 hj).1
  obtain ⟨v, hv⟩ : ∃ v, vs[j]? = some v := ⟨_, List.getElem?_eq_getElem (by omega)⟩
  have htree := ht j t v hj hv
  obtain ⟨ak, ck, rfl, _, _⟩ := htree.parts
  have hvc : ∀ x ∈ vs, (vc x).length = 3 := by
    intro x hx
    obtain ⟨i, hi⟩ := List.getElem?_of_mem hx
    have hin : i < kids.length := by have := (List.getElem?_eq_some_iff.1 hi).1; omega
    exact vc_tree (ht i _ x (List.getElem?_eq_getElem hin) hi)
  obtain ⟨g, cap', e, hc⟩ := ownsRow_some hrow (by omega)
  cases e
  have c0 := hc (j * 3 + 0) _ (by rw [flat_at hvc hv (by omega)]; rfl)
  have c1 := hc (j * 3 + 1) _ (by rw [flat_at hvc hv (by omega)]; rfl)
  have c2 := hc (j * 3 + 2) _ (by rw [flat_at hvc hv (by omega)]; rfl)
  rw [Go.WideShapes.add_plain] at c0 c1 c2
  rw [Nat.zero_add]
  exact ⟨g, 0, t.kind, ⟨t.name.toArray⟩, _, rfl, hg g rfl, c0, by rw [Nat.add_assoc]; exact c1, by rw [Nat.add_assoc]; exact c2, htree⟩
/-- j formulas of kids stand in the row sl, which begins no lower than lo; their own parts lie in R or no lower than lo. -/
structure SmRow (R : Nat → Prop) (lo : Nat) (kids : List T) (j : Nat) (sl : Value) (vs : List Value) (wr : World) : Prop where
  len : vs.length = j
  row : wr.ownsRow lo 24 3 sl j (vs.flatMap vc)
  trees : ∀ (i : Nat) (t : T) (v : Value), kids[i]? = some t → vs[i]? = some v → IsTree (fun b => (R b ∨ (lo ≤ b ∧ b < wr.heap.size)) ∧ sl.ownBlock ≠ some b) wr t v
theorem SmRow.next {R : Nat → Prop} {lo : Nat} {kids : List T} {j : Nat} {sl : Value} {vs : List Value} {wr w3 w4 w6 : World} {x : T} {v a b c : Value} {g' cap : Nat} (h : SmRow R lo kids j sl vs wr) (hRlo : ∀ b, R b → b < lo) (hlo : lo ≤ wr.heap.size) (hx : kids[j]? = some x)
    (hc3 : Chg Nob wr w3) (hc4 : Chg Nob w3 w4) (ht : IsTree (NewIn R w3 w4) w4 x v) (hv : v = .agg #[a, b, c])
    (hr6 : w6.ownsRow lo 24 3 (.slice (some ⟨g', 0, none⟩) (j + 1) cap) (j + 1) (vs.flatMap vc ++ [a, b, c])) (hgr : (w4.alloc (.cells #[a, b, c] 24)).grownBy w6 sl.ownBlock) (hlies : sl.ownBlock = some g' ∨ g' = (w4.alloc (.cells #[a, b, c] 24)).heap.size) :
    SmRow R lo kids (j + 1) (.slice (some ⟨g', 0, none⟩) (j + 1) cap) (vs ++ [v]) w6 ∧ Chg (fun q => lo ≤ q) wr w6 := by
  subst hv
  have hz3 := hc3.size
  have hz4 := hc4.size
  have hz5 : (w4.alloc (.cells #[a, b, c] 24)).heap.size = w4.heap.size + 1 := World.size_alloc _ _
  have hown : ∀ q, sl.ownBlock = some q → lo ≤ q ∧ q < wr.heap.size := fun q hq => h.row.lt q hq
  have hc56 : Chg (fun q => sl.ownBlock = some q) (w4.alloc (.cells #[a, b, c] 24)) w6 := (Chg.refl _ _).grown hgr (fun q hq _ => hq)
  have hc46 : Chg (fun q => sl.ownBlock = some q) w4 w6 := ((Chg.refl Nob w4).alloc _).any.trans1 hc56
  have hcr6 : Chg (fun q => sl.ownBlock = some q) wr w6 := (hc3.trans1 hc4).any.trans1 hc46
  have hz6 := hc56.size
  refine ⟨⟨by rw [List.length_append, h.len]; rfl, ?_, fun i t u hi hu => ?_⟩, hcr6.mono (fun q _ e => (hown q e).1)⟩
  · rw [List.flatMap_append]
    simpa [vc] using hr6
  · by_cases hij : i < vs.length
    · rw [List.getElem?_append_left hij] at hu
      refine IsTree.mono (fun p val hp hval => hcr6.cell' hval (fun e => hp.2 e)) (fun q hq => ⟨?_, ?_⟩) t u (h.trees i t u hi hu)
      · rcases hq.1 with e | e
        · exact .inl e
        · exact .inr ⟨e.1, by omega⟩
      · intro e
        have e : g' = q := by simpa [Value.ownBlock] using e
        rcases hlies with e2 | e2
        · exact hq.2 (by rw [e2, e])
        · rcases hq.1 with e3 | e3
          · have := hRlo q e3; omega
          · omega
    · have hi2 : i = vs.length := by
        have := (List.getElem?_eq_some_iff.1 hu).1
        rw [List.length_append] at this
        simp only [List.length_cons, List.length_nil] at this
        omega
      subst hi2
      rw [List.getElem?_append_right (Nat.le_refl _), Nat.sub_self] at hu
      obtain rfl : Value.agg #[a, b, c] = u := by simpa using hu
      rw [h.len, hx] at hi
      cases hi
      have hnot : ∀ q, NewIn R w3 w4 q → ¬ sl.ownBlock = some q := fun q hq e => by
        have := hown q e
        rcases hq with e3 | e3
        · have := hRlo q e3; omega
        · omega
      refine IsTree.mono (fun p val hp hval => hc46.cell' hval (hnot _ hp)) (fun q hq => ⟨?_, ?_⟩) x _ ht
      · rcases hq with e | e
        · exact .inl e
        · exact .inr ⟨by omega, by omega⟩
      · intro e
        have e : g' = q := by simpa [Value.ownBlock] using e
        rcases hlies with e2 | e2
        · exact hnot q hq (by rw [e2, e])
        · rcases hq with e3 | e3
          · have := hRlo q e3; omega
          · omega
def kidsF : F → List F
  | .np n => [.pr n]
  | .nx a => [a]
  | .an a b | .or a b | .un a b | .re a b => [a, b]
  | _ => []
theorem tF_kids (f : F) : (tF f).kids = (kidsF f).map tF := by cases f <;> rfl
theorem kidsF_size {f g : F} (h : g ∈ kidsF f) : PL.sizeF g < PL.sizeF f := by
  cases f <;> simp [kidsF] at h
  all_goals first | (subst h; simp [PL.sizeF]; done) | (rcases h with rfl | rfl <;> (simp [PL.sizeF]; omega))
end Go.Proofs.YtkgfdgfhpdhhaaaGreat
namespace Go.Proofs.YtkgfdgfhpdhhaaaGreat
open Go.ChangeShapes Go.WideShapes Go.RowKit
open PL (F)

set_option maxRecDepth 100000 in
set_option maxHeartbeats 4000000 in
theorem plain_step {f : F} (ih : ∀ g ∈ kidsF f, ∀ (R : Nat → Prop) (v : Value) (w : World), IsTree R w (tF g) v → Calls Tryz.prog 53 #[v] w fun e w' => e = .returned (.bool true) ∧ Chg Nob w w')
    (R : Nat → Prop) (v : Value) (w : World) (hv : IsTree R w (tF f) v) : Calls Tryz.prog 53 #[v] w fun e w' => e = .returned (.bool true) ∧ Chg Nob w w' := by
  obtain ⟨ao, cap, rfl⟩ := hv.agg'
  have hcW : Chg Nob w (w.alloc (.cells #[.int .i64 (tF f).kind, .string ⟨(tF f).name.toArray⟩, .slice ao (tF f).kids.length cap] 24)) := (Chg.refl _ _).alloc _
  have Hb1 := Lib.hid (heap_alloc_new w (.cells #[.int .i64 (tF f).kind, .string ⟨(tF f).name.toArray⟩, .slice ao (tF f).kids.length cap] 24))
  have hkl : (tF f).kids.length ≤ 2 := by cases f <;> simp [tF, T.kids]
  have h6 : ((tF f).kind == 6) = false := by cases f <;> rfl
  have h7 : ((tF f).kind == 7) = false := by cases f <;> rfl
  have h10 : ((tF f).kind == 10) = false := by cases f <;> rfl
  have h11 : ((tF f).kind == 11) = false := by cases f <;> rfl
  have h14 : ((tF f).kind == 14) = false := by cases f <;> rfl
  have Hv := Lib.hid hv
  have Ih := Lib.hid ih
  clear ih hv
  cases h4 : ((tF f).kind == 4) with
  | true =>
    obtain ⟨n, hn⟩ : ∃ n, f = .np n := by cases f <;> first | exact ⟨_, rfl⟩ | (exact Bool.noConfusion (show false = true from h4))
    obtain ⟨bk, o, sx, cx, hao, c0, c1, c2, _⟩ := Hv.out.kid' (j := 0) (x := .node 3 n []) (by rw [hn]; rfl)
    have hlen : 0 < (tF f).kids.length := by rw [hn]; simp [tF, T.kids]
    rw [Nat.zero_mul, Nat.add_zero] at c0
    have d0 : (w.alloc (.cells #[.int .i64 (tF f).kind, .string ⟨(tF f).name.toArray⟩, .slice ao (tF f).kids.length cap] 24)).cell? ⟨bk, o, none⟩ = some (.int .i64 3) := hcW.cell' c0 (fun e => e)
    have Hc := Lib.hid hcW
    clear c0 c1 c2 hn hcW
    subst hao
    go_enter Tryz.func53, Tryz.ntmps53
    go_wp2
    go_ret
    exact ⟨rfl, Hc.out⟩
  | false =>
    go_enter Tryz.func53, Tryz.ntmps53
    go_wp2_with fail
    generalize w.alloc (.cells #[.int .i64 (tF f).kind, .string ⟨(tF f).name.toArray⟩, .slice ao (tF f).kids.length cap] 24) = W at *
    clear h6 h7 h10 h11 h14 h4
    go_loopw [3] (fun i wr => ∃ j : Nat, i = .int .i64 j ∧ j ≤ (tF f).kids.length ∧ Chg Nob W wr) (fun i _ => (tF f).kids.length - (intOf i).toNat)
    case atStart => exact ⟨0, rfl, Nat.zero_le _, Chg.refl _ _⟩
    case round =>
      obtain ⟨j, rfl, hj, hc⟩ := hrel
      have d2 := cell_row (hc.at Hb1.out (fun e => e)) 2 (v := .slice ao (tF f).kids.length cap) rfl
      by_cases hlt : j < (tF f).kids.length
      · obtain ⟨x, hx⟩ : ∃ x, (kidsF f)[j]? = some x := ⟨_, List.getElem?_eq_getElem (by rw [tF_kids, List.length_map] at hlt; exact hlt)⟩
        obtain ⟨bk, o, sx, cx, hao, p0, p1, p2, htx⟩ := Hv.out.kid' (j := j) (x := tF x) (by rw [tF_kids, List.getElem?_map, hx]; rfl)
        have hcc := hcW.trans1 hc
        have p0' := hcc.cell' p0 (fun e => e)
        have p1' := hcc.cell' p1 (fun e => e)
        have p2' := hcc.cell' p2 (fun e => e)
        have hcall := Ih.out x (List.mem_of_getElem? hx) R _ wr (htx.nob hcc)
        have hki : (j : Int) < ((tF f).kids.length : Int) := by omega
        have hk0 : (0 : Int) ≤ (j : Int) := by omega
        clear p0 p1 p2 htx hx
        subst hao
        go_wp2_with fail
        (with_reducible refine hcall.mono ?_)
        clear hcall p0' p1' p2' d2
        rintro e w5 ⟨rfl, hc5⟩
        go_wp2_with fail
        go_roundw
        case rel => exact ⟨j + 1, by go_num, by omega, hc.trans1 hc5⟩
        case measure => simp [intOf]; omega
      · obtain rfl : j = (tF f).kids.length := by omega
        go_wp2
        go_ret
        exact ⟨rfl, hcW.trans1 hc⟩
theorem plainr_any : ∀ (f : F) (R : Nat → Prop) (v : Value) (w : World), IsTree R w (tF f) v → Calls Tryz.prog 53 #[v] w fun e w' => e = .returned (.bool true) ∧ Chg Nob w w' := by
  have key : ∀ (n : Nat) (f : F), PL.sizeF f ≤ n → ∀ (R : Nat → Prop) (v : Value) (w : World), IsTree R w (tF f) v → Calls Tryz.prog 53 #[v] w fun e w' => e = .returned (.bool true) ∧ Chg Nob w w' := by
    intro n
    induction n with
    | zero => intro f h; have := PL.sizeF_pos f; omega
    | succ n ih => exact fun f h => plain_step (fun g hg => ih g (by have := kidsF_size hg; omega))
  exact fun f => key _ f (Nat.le_refl _)
set_option maxRecDepth 100000 in
theorem Plainr_any {f : F} (hf : okF f) (hs : PL.sizeF f ≤ 1000000) {R : Nat → Prop} {v : Value} {w : World} (hv : IsTree R w (tF f) v) : Calls Tryz.prog 19 #[v] w fun e w' => e = .returned (.bool true) ∧ Chg Nob w w' := by
  obtain ⟨ao, cap, rfl⟩ := hv.agg'
  have hcW : Chg Nob w (w.alloc (.cells #[.int .i64 (tF f).kind, .string ⟨(tF f).name.toArray⟩, .slice ao (tF f).kids.length cap] 24)) := (Chg.refl _ _).alloc _
  have hb1 := heap_alloc_new w (.cells #[.int .i64 (tF f).kind, .string ⟨(tF f).name.toArray⟩, .slice ao (tF f).kids.length cap] 24)
  have hp := rmay_any R 1000000 (tF f) (by rw [tF_size]; exact hs) _ _ (hv.nob hcW)
  have hm : mayT (tF f) = true := (tF_PN f hf).1
  rw [hm] at hp
  have Hv := Lib.hid hv
  have Hb := Lib.hid hb1
  have Hc := Lib.hid hcW
  clear hv hb1 hcW hm
  go_enter Tryz.func19, Tryz.ntmps19
  go_wp2_with fail
  (with_reducible refine hp.mono ?_)
  clear hp
  rintro e w5 ⟨rfl, hc5⟩
  obtain ⟨c0, c1, c2, _⟩ := cells_three (hc5.at Hb.out (fun e => e))
  have hp := plainr_any f R _ w5 (Hv.out.nob (Hc.out.trans1 hc5))
  go_wp2_with fail
  (with_reducible refine hp.mono ?_)
  clear hp
  rintro e w6 ⟨rfl, hc6⟩
  go_wp2
  go_ret
  exact ⟨rfl, (Hc.out.trans1 hc5).trans1 hc6⟩
end Go.Proofs.YtkgfdgfhpdhhaaaGreat
namespace Go.Proofs.YtkgfdgfhpdhhaaaGreat
open Go.ChangeShapes Go.WideShapes Go.RowKit
open PL (F)

theorem strs_one (M : List (List UInt8)) : ∀ u ∈ M.map strV, u.oneCell' = true := by
  intro u hu
  obtain ⟨x, _, rfl⟩ := List.mem_map.1 hu
  rfl
/-- Cells of texts. -/
def SCells (w : World) (a : Addr) (M : List (List UInt8)) : Prop := ∀ j x, M[j]? = some x → w.cell? (a.add j) = some (strV x)
/-- Texts behind a row of texts. -/
theorem append_cells {B : Nat} {w : World} {v : Value} {n : Nat} {xs : List Value} {a : Addr} {M : List (List UInt8)} (c : Nat) (h : w.ownsRow B 9 1 v n xs) (hB : B ≤ w.heap.size) (hn : n + M.length ≤ 1000000) (hM : SCells w a M) :
    ∃ v' w', (Builtin.append_ #[25, 25] 25 #[v, .slice (some a) M.length c]).run Tryz.prog w = .ok v' w' ∧ w'.ownsRow B 9 1 v' (n + M.length) (xs ++ M.map strV) ∧ w.grownBy w' v.ownBlock := by
  obtain ⟨i, hi, hz, hs, hb⟩ := info9_parts
  obtain ⟨v', w', h1, h2, h3, _, _⟩ := run_append_own_at (P := Tryz.prog) w B 25 25 9 i _ 1 16 Tryz.underlying25 hi hz hs hb rfl (by decide) v n _ h a M.length c (M.map strV) (by simp)
    (fun j u hj => by
      rw [List.getElem?_map] at hj
      cases hx : M[j]? with
      | none => rw [hx] at hj; cases hj
      | some x => rw [hx] at hj; cases hj; exact hM j x hx) (strs_one M) (by unfold maxLen; omega) (by omega) hB
  exact ⟨v', w', h1, h2, h3⟩
theorem append_none {B : Nat} {w : World} {v : Value} {n : Nat} {xs : List Value} (h : w.ownsRow B 9 1 v n xs) : (Builtin.append_ #[25, 25] 25 #[v, .slice none 0 0]).run Tryz.prog w = .ok v w := by
  obtain ⟨i, hi, hz, hs, hb⟩ := info9_parts
  exact run_append_owned_none (P := Tryz.prog) (w := w) B 25 25 9 i 1 Tryz.underlying25 hi v n xs h
/-- A row of texts behind another one. -/
theorem append_s {B B2 : Nat} {w : World} {v v2 : Value} {n m : Nat} {xs : List Value} {M : List (List UInt8)} (h : w.ownsRow B 9 1 v n xs) (hB : B ≤ w.heap.size) (h2 : w.ownsRow B2 9 1 v2 m (M.map strV)) (hm : m = M.length) (hn : n + m ≤ 1000000) :
    ∃ v' w', (Builtin.append_ #[25, 25] 25 #[v, v2]).run Tryz.prog w = .ok v' w' ∧ w'.ownsRow B 9 1 v' (n + m) (xs ++ M.map strV) ∧ w.grownBy w' v.ownBlock := by
  subst hm
  rcases h2.2 with ⟨e, h0⟩ | ⟨g, cap, cur, e, _⟩
  · subst e
    have hM0 : M = [] := List.eq_nil_of_length_eq_zero h0
    subst hM0
    refine ⟨v, w, append_none h, ?_, ⟨rfl, rfl, rfl, Nat.le_refl _, fun _ _ _ => rfl⟩⟩
    simpa using h
  · subst e
    exact append_cells cap h hB hn (fun j x hj => h2.cells rfl j _ (by rw [List.getElem?_map, hj]; rfl))
def RnamesPost (L : List (List UInt8)) (w : World) (e : Ending) (w' : World) : Prop := Chg Nob w w' ∧ ∃ v, e = .returned v ∧ w'.ownsRow w.heap.size 9 1 v L.length (L.map strV)
theorem names_kids (f : F) (h : ((tF f).kind == 3) = false) : PL.namesF f = (kidsF f).flatMap PL.namesF := by
  cases f <;> first | (simp [PL.namesF, kidsF]; done) | (exact Bool.noConfusion (show true = false from h))
theorem names_len (f : F) : (PL.namesF f).length ≤ PL.sizeF f := by
  induction f <;> simp_all [PL.namesF, PL.sizeF] <;> omega
theorem take_flat {l : List F} {j : Nat} {x : F} (h : l[j]? = some x) : ((l.take (j + 1)).flatMap PL.namesF) = (l.take j).flatMap PL.namesF ++ PL.namesF x := by
  rw [List.take_add_one, h, List.flatMap_append]
  simp
theorem take_len (f : F) (j : Nat) : (((kidsF f).take j).flatMap PL.namesF).length ≤ PL.sizeF f := by
  have h : ∀ (l : List F) (j : Nat), ((l.take j).flatMap PL.namesF).length ≤ (l.flatMap PL.namesF).length := by
    intro l
    induction l with
    | nil => intro j; simp
    | cons x l ih =>
      intro j
      cases j with
      | zero => simp
      | succ j => simp only [List.take_succ_cons, List.flatMap_cons, List.length_append]; have := ih j; omega
  refine Nat.le_trans (h _ j) ?_
  cases f <;> simp [kidsF, PL.namesF, PL.sizeF]
  all_goals first | (rename_i a b; have := names_len a; have := names_len b; omega) | (rename_i a; have := names_len a; omega)
set_option maxRecDepth 100000 in
set_option maxHeartbeats 4000000 in
theorem names_step {f : F} (hsz : PL.sizeF f ≤ 400000) (ih : ∀ g ∈ kidsF f, ∀ (R : Nat → Prop) (v : Value) (w : World), IsTree R w (tF g) v → Calls Tryz.prog 54 #[v] w (RnamesPost (PL.namesF g) w))
    (R : Nat → Prop) (v : Value) (w : World) (hv : IsTree R w (tF f) v) : Calls Tryz.prog 54 #[v] w (RnamesPost (PL.namesF f) w) := by
  obtain ⟨ao, cap, rfl⟩ := hv.agg'
  have hcW : Chg Nob w (w.alloc (.cells #[.int .i64 (tF f).kind, .string ⟨(tF f).name.toArray⟩, .slice ao (tF f).kids.length cap] 24)) := (Chg.refl _ _).alloc _
  have Hb1 := Lib.hid (heap_alloc_new w (.cells #[.int .i64 (tF f).kind, .string ⟨(tF f).name.toArray⟩, .slice ao (tF f).kids.length cap] 24))
  have hkl : (tF f).kids.length ≤ 2 := by cases f <;> simp [tF, T.kids]
  have HcW := Lib.hid hcW
  have hsW : (w.alloc (.cells #[.int .i64 (tF f).kind, .string ⟨(tF f).name.toArray⟩, .slice ao (tF f).kids.length cap] 24)).heap.size = w.heap.size + 1 := World.size_alloc _ _
  have HsW := Lib.hid hsW
  have Hv := Lib.hid hv
  have Ih := Lib.hid ih
  clear ih hv hsW hcW
  cases h3 : ((tF f).kind == 3) with
  | false =>
    have Hnk := Lib.hid (names_kids f h3)
    go_enter Tryz.func54, Tryz.ntmps54
    go_wp2_with fail
    generalize w.alloc (.cells #[.int .i64 (tF f).kind, .string ⟨(tF f).name.toArray⟩, .slice ao (tF f).kids.length cap] 24) = W at *
    clear h3
    have hr0 : Hid (W.ownsRow (w.heap.size + 1) 9 1 (.slice none 0 0) 0 []) := (show W.ownsRow _ 9 1 _ 0 [] from ⟨rfl, .inl ⟨rfl, rfl⟩⟩)
    go_loopw [3, 4] (fun lv iv wr => ∃ j : Nat, iv = .int .i64 (j : Int) ∧ j ≤ (tF f).kids.length ∧ Hid (wr.ownsRow (w.heap.size + 1) 9 1 lv ([] ++ ((kidsF f).take j).flatMap PL.namesF).length (([] ++ ((kidsF f).take j).flatMap PL.namesF).map strV)) ∧ Hid (Chg (fun q => w.heap.size + 1 ≤ q) W wr)) (fun _ iv _ => (tF f).kids.length - (intOf iv).toNat)
    case atStart => exact ⟨0, rfl, Nat.zero_le _, hr0, Chg.refl _ _⟩
    case round =>
      clear hr0
      obtain ⟨j, rfl, hj, HO, Hc⟩ := hrel
      have hcw : Hid (Chg Nob w wr) := (show Chg Nob w wr from (HcW.out.any (S := fun q => w.heap.size + 1 ≤ q)).trans1 Hc.out |>.mono (fun i hi e => by omega))
      have hsr : Hid (w.heap.size + 1 ≤ wr.heap.size) := (show w.heap.size + 1 ≤ wr.heap.size by have := Hc.out.size; have := HsW.out; omega)
      have d2 := cell_row (Hc.out.at Hb1.out (fun e => by omega)) 2 (v := .slice ao (tF f).kids.length cap) rfl
      by_cases hlt : j < (tF f).kids.length
      · obtain ⟨x, hx⟩ : ∃ x, (kidsF f)[j]? = some x := ⟨_, List.getElem?_eq_getElem (by rw [tF_kids, List.length_map] at hlt; exact hlt)⟩
        obtain ⟨bk, o, sx, cx, hao, p0, p1, p2, htx⟩ := Hv.out.kid' (j := j) (x := tF x) (by rw [tF_kids, List.getElem?_map, hx]; rfl)
        have p0' := hcw.out.cell' p0 (fun e => e)
        have p1' := hcw.out.cell' p1 (fun e => e)
        have p2' := hcw.out.cell' p2 (fun e => e)
        have hp := Ih.out x (List.mem_of_getElem? hx) R _ wr (htx.nob hcw.out)
        have hki : (j : Int) < ((tF f).kids.length : Int) := by omega
        have hk0 : (0 : Int) ≤ (j : Int) := by omega
        have Hx := Lib.hid (take_flat hx)
        have hxs := names_len x
        have hxz : PL.sizeF x < PL.sizeF f := kidsF_size (List.mem_of_getElem? hx)
        have htk := take_len f j
        have Hp := Lib.hid hp
        clear p0 p1 p2 htx hx hp
        subst hao
        go_wp2_with fail
        (with_reducible refine Hp.out.mono ?_)
        rintro e w4 ⟨hc4, v4, rfl, hr4⟩
        obtain ⟨v5, w5, hrun, hrow, hgr⟩ := append_s (ownsRow_chg HO.out hc4 (fun _ _ e => e)) (by have := hsr.out; have := hc4.size; omega) hr4 rfl (by rw [List.nil_append]; omega)
        have hrow' : w5.ownsRow (w.heap.size + 1) 9 1 v5 ([] ++ ((kidsF f).take (j + 1)).flatMap PL.namesF).length (([] ++ ((kidsF f).take (j + 1)).flatMap PL.namesF).map strV) := by
          rw [Hx.out, ← List.append_assoc, List.length_append, List.map_append]; exact hrow
        have Hrun := Lib.hid hrun
        have Hrow := Lib.hid hrow'
        have Hc5 : Hid (Chg (fun q => w.heap.size + 1 ≤ q) W w5) := (show Chg (fun q => w.heap.size + 1 ≤ q) W w5 from (Hc.out.trans1 hc4.any).grown hgr (fun k hk _ => (HO.out.lt k hk).1))
        clear hrun hrow hrow' hgr hr4 hc4 p0' p1' p2' d2 HO Hc
        go_wp2_with (refine wpList_append_known rfl _ _ 25 25 rfl _ _ rfl rfl _ w5 Hrun.out ?_)
        go_roundw
        case rel => exact ⟨j + 1, by go_num, by omega, Hrow, Hc5⟩
        case measure => simp [intOf]; omega
      · obtain rfl : j = (tF f).kids.length := by omega
        have hE : [] ++ ((kidsF f).take (tF f).kids.length).flatMap PL.namesF = PL.namesF f := by rw [Hnk.out, tF_kids, List.length_map, List.take_length, List.nil_append]
        have HF : Hid (wr.ownsRow w.heap.size 9 1 _ (PL.namesF f).length ((PL.namesF f).map strV)) := (show wr.ownsRow w.heap.size 9 1 _ _ _ from hE ▸ ownsRow_mono HO.out (by omega))
        clear hE HO
        go_wp2
        go_ret
        exact ⟨hcw.out, _, rfl, HF.out⟩
  | true =>
    obtain ⟨n, rfl⟩ : ∃ n, f = .pr n := by cases f <;> first | exact ⟨_, rfl⟩ | (exact Bool.noConfusion (show false = true from h3))
    obtain ⟨W, hWe⟩ : ∃ W, W = w.alloc (.cells #[.int .i64 (tF (.pr n)).kind, .string ⟨(tF (.pr n)).name.toArray⟩, .slice ao (tF (.pr n)).kids.length cap] 24) := ⟨_, rfl⟩
    rw [← hWe] at Hb1 HcW HsW
    obtain ⟨g', capg, w6, hrun, hrow6, hgr, hlies, hg6⟩ := append9 (w := W.alloc (.cells #[.string ⟨(tF (.pr n)).name.toArray⟩] 9)) (B := w.heap.size + 1) (v := .slice none 0 0) (n := 0) (xs := []) ⟨rfl, .inl ⟨rfl, rfl⟩⟩ (by rw [World.size_alloc]; have := HsW.out; omega) (by omega) (heap_alloc_new _ _)
    rw [HsW.out] at hrun
    have Hrun := Lib.hid hrun
    have Hrow : Hid (w6.ownsRow (w.heap.size + 1) 9 1 (.slice (some ⟨g', 0, none⟩) 1 capg) 1 [strV n]) := (show _ from hrow6)
    have Hc6 : Hid (Chg Nob W w6) := (show Chg Nob W w6 from ((Chg.refl Nob W).alloc _).grown hgr (fun k e _ => by simp [Value.ownBlock] at e))
    obtain ⟨c0, c1, c2, _⟩ := cells_three Hb1.out
    subst hWe
    clear hrun hrow6 hgr hlies hg6 c0 c2
    go_enter Tryz.func54, Tryz.ntmps54
    go_wp2_with (refine wpList_append_known rfl _ _ 25 25 rfl _ _ rfl rfl _ w6 Hrun.out ?_)
    clear h3 c1
    generalize w.alloc (.cells #[.int .i64 (tF (.pr n)).kind, .string ⟨(tF (.pr n)).name.toArray⟩, .slice ao (tF (.pr n)).kids.length cap] 24) = W at *
    generalize hf : F.pr n = f at *
    go_loopw [3, 4] (fun lv iv wr => ∃ j : Nat, iv = .int .i64 (j : Int) ∧ j ≤ (tF f).kids.length ∧ Hid (wr.ownsRow (w.heap.size + 1) 9 1 lv ([n] ++ ((kidsF f).take j).flatMap PL.namesF).length (([n] ++ ((kidsF f).take j).flatMap PL.namesF).map strV)) ∧ Hid (Chg (fun q => w.heap.size + 1 ≤ q) W wr)) (fun _ iv _ => (tF f).kids.length - (intOf iv).toNat)
    case atStart => exact ⟨0, rfl, Nat.zero_le _, (by subst hf; exact Hrow.out), Hc6.out.any⟩
    case round =>
      
      obtain ⟨j, rfl, hj, HO, Hc⟩ := hrel
      have hcw : Hid (Chg Nob w wr) := (show Chg Nob w wr from (HcW.out.any (S := fun q => w.heap.size + 1 ≤ q)).trans1 Hc.out |>.mono (fun i hi e => by omega))
      have hsr : Hid (w.heap.size + 1 ≤ wr.heap.size) := (show w.heap.size + 1 ≤ wr.heap.size by have := Hc.out.size; have := HsW.out; omega)
      have d2 := cell_row (Hc.out.at Hb1.out (fun e => by omega)) 2 (v := .slice ao (tF f).kids.length cap) rfl
      by_cases hlt : j < (tF f).kids.length
      · subst hf; exact absurd hlt (Nat.not_lt_zero _)
      · obtain rfl : j = (tF f).kids.length := by omega
        have hE : [n] ++ ((kidsF f).take (tF f).kids.length).flatMap PL.namesF = PL.namesF f := by subst hf; rfl
        have HF : Hid (wr.ownsRow w.heap.size 9 1 _ (PL.namesF f).length ((PL.namesF f).map strV)) := (show wr.ownsRow w.heap.size 9 1 _ _ _ from hE ▸ ownsRow_mono HO.out (by omega))
        clear hE HO
        go_wp2
        go_ret
        exact ⟨hcw.out, _, rfl, HF.out⟩
theorem rnames_any : ∀ (f : F), PL.sizeF f ≤ 400000 → ∀ (R : Nat → Prop) (v : Value) (w : World), IsTree R w (tF f) v → Calls Tryz.prog 54 #[v] w (RnamesPost (PL.namesF f) w) := by
  have key : ∀ (n : Nat) (f : F), PL.sizeF f ≤ n → PL.sizeF f ≤ 400000 → ∀ (R : Nat → Prop) (v : Value) (w : World), IsTree R w (tF f) v → Calls Tryz.prog 54 #[v] w (RnamesPost (PL.namesF f) w) := by
    intro n
    induction n with
    | zero => intro f h; have := PL.sizeF_pos f; omega
    | succ n ih => exact fun f h hs => names_step hs (fun g hg => ih g (by have := kidsF_size hg; omega) (by have := kidsF_size hg; omega))
  exact fun f => key _ f (Nat.le_refl _)
end Go.Proofs.YtkgfdgfhpdhhaaaGreat
namespace Go.Proofs.YtkgfdgfhpdhhaaaGreat
open Go.ChangeShapes Go.WideShapes Go.RowKit

set_option maxRecDepth 100000 in
set_option maxHeartbeats 4000000 in
theorem hasnext_any : ∀ t : T, ∀ (R : Nat → Prop) (v : Value) (w : World), IsTree R w t v → Calls Tryz.prog 20 #[v] w fun e w' => e = .returned (.bool (hasT 5 t)) ∧ Chg Nob w w' := by
  refine kid_induct ?_
  intro t ih R v w ht
  obtain ⟨a1, cp1, rfl, hl1, hk1⟩ := ht.parts
  have hcW : Chg Nob w (w.alloc (.cells #[.int .i64 t.kind, .string ⟨t.name.toArray⟩, .slice a1 t.kids.length cp1] 24)) := (Chg.refl _ _).alloc _
  have Hb1 := Lib.hid (heap_alloc_new w (.cells #[.int .i64 t.kind, .string ⟨t.name.toArray⟩, .slice a1 t.kids.length cp1] 24))
  have Hk1 := Lib.hid hk1
  have Ih := Lib.hid ih
  clear ih ht hk1
  cases hk : (t.kind == 5) with
  | true =>
    have Hr : Hid (hasT 5 t = true) := (show hasT 5 t = true by rw [hasT_eq, hk]; rfl)
    go_enter Tryz.func20, Tryz.ntmps20
    go_wp2
    go_ret
    exact ⟨by rw [Hr.out]; rfl, hcW⟩
  | false =>
    have Hk := Lib.hid hk
    go_enter Tryz.func20, Tryz.ntmps20
    go_wp2_with fail
    generalize w.alloc (.cells #[.int .i64 t.kind, .string ⟨t.name.toArray⟩, .slice a1 t.kids.length cp1] 24) = W at *
    clear hk
    go_loopw [3] (fun i wr => ∃ j : Nat, i = .int .i64 j ∧ j ≤ t.kids.length ∧ Hid (∀ q x, q < j → t.kids[q]? = some x → hasT 5 x = false) ∧ Chg Nob W wr) (fun i _ => t.kids.length - (intOf i).toNat)
    case atStart => exact ⟨0, rfl, Nat.zero_le _, fun q t h => absurd h (Nat.not_lt_zero q), Chg.refl _ _⟩
    case round =>
      obtain ⟨j, rfl, hj, hall, hc⟩ := hrel
      have d2 := cell_row (hc.at Hb1.out (fun e => e)) 2 (v := .slice a1 t.kids.length cp1) rfl
      by_cases hlt : j < t.kids.length
      · obtain ⟨x, hx⟩ : ∃ x, t.kids[j]? = some x := ⟨_, List.getElem?_eq_getElem hlt⟩
        obtain ⟨b1, o1, ak1, cap1, hao1, _, p0, p1, p2, _, _, htr1⟩ := Hk1.out.kid hx
        have hcc := hcW.trans1 hc
        have p0' := hcc.cell' p0 (fun e => e)
        have p1' := hcc.cell' p1 (fun e => e)
        have p2' := hcc.cell' p2 (fun e => e)
        have hcall := Ih.out x (List.mem_of_getElem? hx) R _ wr (htr1.nob hcc)
        have hki : (j : Int) < (t.kids.length : Int) := by omega
        have hk0 : (0 : Int) ≤ (j : Int) := by omega
        have Hx := Lib.hid hx
        clear p0 p1 p2 htr1 hx
        subst hao1
        go_wp2_with fail
        (with_reducible refine hcall.mono ?_)
        clear hcall p0' p1' p2' d2
        rintro e w5 ⟨rfl, hc5⟩
        cases hs : hasT 5 x with
        | false =>
          go_wp2_with fail
          go_roundw
          case rel => exact ⟨j + 1, by go_num, by omega, (show ∀ q x', q < j + 1 → t.kids[q]? = some x' → hasT 5 x' = false from fun q x' hq h1 => by
            by_cases e : q = j
            · subst e
              rw [Hx.out] at h1; cases h1
              exact hs
            · exact hall.out q x' (by omega) h1), hc.trans1 hc5⟩
          case measure => simp [intOf]; omega
        | true =>
          have Hr : Hid (hasT 5 t = true) := (show hasT 5 t = true by rw [hasT_eq, hasL_at Hx.out hs]; simp)
          go_wp2
          go_ret
          exact ⟨by rw [Hr.out]; rfl, hcc.trans1 hc5⟩
      · obtain rfl : j = t.kids.length := by omega
        have Hr : Hid (hasT 5 t = false) := (show hasT 5 t = false by rw [hasT_eq, Hk.out, hasL_no (fun q x hq => hall.out q x (List.getElem?_eq_some_iff.1 hq).1 hq)]; rfl)
        go_wp2
        go_ret
        exact ⟨by rw [Hr.out]; rfl, hcW.trans1 hc⟩
end Go.Proofs.YtkgfdgfhpdhhaaaGreat
namespace Go.Proofs.YtkgfdgfhpdhhaaaGreat
open Go.ChangeShapes Go.WideShapes Go.RowKit
open PL (F)

def RNamesPost (f : F) (w : World) (e : Ending) (w' : World) : Prop := Chg Nob w w' ∧ ∃ (v : Value) (L : List (List UInt8)), e = .returned v ∧ w'.ownsRow w.heap.size 9 1 v L.length (L.map strV) ∧ (∀ x, x ∈ L ↔ x ∈ PL.namesF f) ∧ L.length ≤ 400000
theorem row_at {w : World} {B g cap : Nat} {L : List (List UInt8)} (h : w.ownsRow B 9 1 (.slice (some ⟨g, 0, none⟩) L.length cap) L.length (L.map strV)) {k : Nat} {y : List UInt8} (hy : L[k]? = some y) : w.cell? ⟨g, k, none⟩ = some (.string ⟨y.toArray⟩) :=
  ownsRow_at h (by rw [List.getElem?_map, hy]; rfl)
theorem row_shape {w : World} {B : Nat} {v : Value} {n : Nat} {xs : List Value} (h : w.ownsRow B 9 1 v n xs) (hn : 0 < n) : ∃ g cap, v = .slice (some ⟨g, 0, none⟩) n cap ∧ n ≤ cap := by
  rcases h.2 with ⟨_, h0⟩ | ⟨g, cap, cur, hv, _, _, hc, _⟩
  · omega
  · exact ⟨g, cap, hv, hc⟩
theorem append_cells' {B : Nat} {w : World} {v : Value} {n m : Nat} {xs : List Value} {a : Addr} {M : List (List UInt8)} (c : Nat) (hm : m = M.length) (h : w.ownsRow B 9 1 v n xs) (hB : B ≤ w.heap.size) (hn : n + m ≤ 1000000) (hM : SCells w a M) :
    ∃ v' w', (Builtin.append_ #[25, 25] 25 #[v, .slice (some a) m c]).run Tryz.prog w = .ok v' w' ∧ w'.ownsRow B 9 1 v' (n + m) (xs ++ M.map strV) ∧ w.grownBy w' v.ownBlock := by
  subst hm
  exact append_cells c h hB hn hM
theorem nil_row (w : World) (B : Nat) : w.ownsRow B 9 1 (.slice none 0 0) 0 [] := ⟨rfl, .inl ⟨rfl, rfl⟩⟩
theorem grown_none {w w' : World} (h : w.grownBy w' (Value.slice none 0 0).ownBlock) : Chg Nob w w' := (Chg.refl Nob w).grown h (fun k e _ => by simp [Value.ownBlock] at e)
def insAt (L : List (List UInt8)) (k : Nat) (x : List UInt8) : List (List UInt8) := L.take k ++ [x] ++ L.drop k
theorem insAt_mem {L : List (List UInt8)} {k : Nat} {x z : List UInt8} : z ∈ insAt L k x ↔ z ∈ L ∨ z = x := by
  unfold insAt
  rw [List.mem_append, List.mem_append, List.mem_singleton]
  constructor
  · rintro ((h | h) | h)
    · exact .inl (List.mem_of_mem_take h)
    · exact .inr h
    · exact .inl (List.mem_of_mem_drop h)
  · rintro (h | h)
    · rw [← List.take_append_drop k L, List.mem_append] at h
      rcases h with h | h
      · exact .inl (.inl h)
      · exact .inr h
    · exact .inl (.inr h)
theorem insAt_len {L : List (List UInt8)} {k : Nat} {x : List UInt8} : (insAt L k x).length = L.length + 1 := by
  unfold insAt
  rw [List.length_append, List.length_append, List.length_take, List.length_drop, List.length_singleton]; omega
theorem take_mem {l : List (List UInt8)} {i : Nat} {x : List UInt8} (h : l[i]? = some x) (z : List UInt8) : z ∈ l.take (i + 1) ↔ z ∈ l.take i ∨ z = x := by
  rw [List.take_add_one, h, List.mem_append]
  simp
set_option maxRecDepth 100000 in
set_option maxHeartbeats 8000000 in
theorem rNames_any {f : F} (hs : PL.sizeF f ≤ 400000) {R : Nat → Prop} {v : Value} {w : World} (hv : IsTree R w (tF f) v) : Calls Tryz.prog 22 #[v] w (RNamesPost f w) := by
  obtain ⟨ao, cap, rfl⟩ := hv.agg'
  have hcW : Chg Nob w (w.alloc (.cells #[.int .i64 (tF f).kind, .string ⟨(tF f).name.toArray⟩, .slice ao (tF f).kids.length cap] 24)) := (Chg.refl _ _).alloc _
  have hp := rnames_any f hs R _ _ (hv.nob hcW)
  have HcW := Lib.hid hcW
  have hln := names_len f
  have hsW : (w.alloc (.cells #[.int .i64 (tF f).kind, .string ⟨(tF f).name.toArray⟩, .slice ao (tF f).kids.length cap] 24)).heap.size = w.heap.size + 1 := World.size_alloc _ _
  have HsW := Lib.hid hsW
  clear hv hcW hsW
  go_enter Tryz.func22, Tryz.ntmps22
  go_wp2_with fail
  (with_reducible refine hp.mono ?_)
  clear hp
  rintro e W2 ⟨hc2, vl, rfl, hrl⟩
  have hcw2 := HcW.out.trans1 hc2
  obtain ⟨l, hl⟩ : ∃ l, l = PL.namesF f := ⟨_, rfl⟩
  rw [← hl] at hrl hln
  have HrL := Lib.hid hrl
  have Hl := Lib.hid hl
  have Hcw2 := Lib.hid hcw2
  have hll : l.length ≤ 400000 := by omega
  obtain ⟨aol, cpl, hsl⟩ := ownsRow_shape hrl
  subst hsl
  have hr0 : Hid (W2.ownsRow W2.heap.size 9 1 (.slice none 0 0) 0 []) := (show W2.ownsRow _ 9 1 _ 0 [] from ⟨rfl, .inl ⟨rfl, rfl⟩⟩)
  clear hrl hl hcw2 hc2
  go_wp2_with fail
  go_loopw [3, 5] (fun ov iv wr => ∃ (i : Nat) (L : List (List UInt8)), iv = .int .i64 (i : Int) ∧ i ≤ l.length ∧ L.length ≤ i ∧ Hid (wr.ownsRow W2.heap.size 9 1 ov L.length (L.map strV)) ∧ Hid (∀ x, x ∈ L ↔ x ∈ l.take i) ∧ Hid (Chg (fun q => W2.heap.size ≤ q) W2 wr) ∧ Hid (L = [] → ov = .slice none 0 0)) (fun _ iv _ => l.length - (intOf iv).toNat)
  case atStart => exact ⟨0, [], rfl, Nat.zero_le _, Nat.le_refl _, hr0, (by show ∀ x, _; simp), Chg.refl _ _, fun _ => rfl⟩
  case round =>
    clear hr0
    obtain ⟨i, L, rfl, hi, hLi, HO, HM, Hc, HN⟩ := hrel
    have hcw : Hid (Chg Nob w wr) := (show Chg Nob w wr from (Hcw2.out.any (S := fun q => W2.heap.size ≤ q)).trans1 Hc.out |>.mono (fun i hi e => by have := Hcw2.out.size; omega))
    by_cases hlt : i < l.length
    · obtain ⟨x, hx⟩ : ∃ x, l[i]? = some x := ⟨_, List.getElem?_eq_getElem hlt⟩
      obtain ⟨gl, capl, hvl, _⟩ := row_shape HrL.out (by omega)
      cases hvl
      have HcL : Hid (∀ w', Chg (fun q => W2.heap.size ≤ q) W2 w' → w'.cell? ⟨gl, i, none⟩ = some (.string ⟨x.toArray⟩)) := (show ∀ w', Chg (fun q => W2.heap.size ≤ q) W2 w' → _ from fun w' h => h.cell' (row_at HrL.out hx) (fun e => by have := (HrL.out.lt gl rfl).2; have e : W2.heap.size ≤ gl := e; omega))
      have hii : (i : Int) < (l.length : Int) := by omega
      have hi0 : (0 : Int) ≤ (i : Int) := by omega
      obtain ⟨oo, oc, hso⟩ := ownsRow_shape HO.out
      subst hso
      have Hx := Lib.hid hx
      have dL := HcL.out wr Hc.out
      clear hx
      obtain ⟨W3, hW3⟩ : ∃ X, X = wr := ⟨_, rfl⟩
      subst hW3
      go_wp2_with fail
      go_loopw [6] (fun kv wk => ∃ k : Nat, kv = .int .i64 (k : Int) ∧ k ≤ L.length ∧ Hid (Chg Nob W3 wk)) (fun kv _ => L.length - (intOf kv).toNat)
      case atStart => exact ⟨0, rfl, Nat.zero_le _, Chg.refl _ _⟩
      case round =>
        obtain ⟨k, rfl, hk, Hk⟩ := hrel
        by_cases hkl : k < L.length
        · obtain ⟨y, hy⟩ : ∃ y, L[k]? = some y := ⟨_, List.getElem?_eq_getElem hkl⟩
          obtain ⟨g, oc2, hvo, hcap⟩ := row_shape HO.out (by omega)
          cases hvo
          have hki : (k : Int) < (L.length : Int) := by omega
          have hk0 : (0 : Int) ≤ (k : Int) := by omega
          have d1 := Hk.out.drew.cell' (row_at HO.out hy) (fun e => e)
          have d2 := Hk.out.drew.cell' dL (fun e => e)
          have Hy := Lib.hid hy
          clear hy
          go_wp2_with fail
          cases hlb : Op.bytesLess y x with
          | true =>
            refine wp_region_free (fun _ => true) (fun w' => w'.cell? ⟨g, k, none⟩ = some (.string ⟨y.toArray⟩) ∧ w'.cell? ⟨gl, i, none⟩ = some (.string ⟨x.toArray⟩)) (by kernel_rfl) ⟨d1, d2⟩ (fun hHeld => ?_)
            refine wpAnyG_take (i := 0) (v := ?_) rfl (by kernel_rfl) (fun _ _ _ h => h) (Or.inl ⟨by rfl, ?_⟩) hHeld ?_
            rotate_left
            · intro w hSw; obtain ⟨d1, d2⟩ := hSw; go_simp; (try (with_reducible rfl))
            simp only [Act.put, List.setIfInBounds_toArray]
            refine wpAnyG_take (i := 1) (v := ?_) rfl (by kernel_rfl) (fun _ _ _ h => h) (Or.inl ⟨by rfl, ?_⟩) hHeld ?_
            rotate_left
            · intro w hSw; obtain ⟨d1, d2⟩ := hSw; go_simp; (try (with_reducible rfl))
            try simp only [Act.put]
            refine wpAnyG_take (i := 2) (v := ?_) rfl (by kernel_rfl) (fun _ _ _ h => h) (Or.inl ⟨by rfl, ?_⟩) hHeld ?_
            rotate_left
            · intro w hSw; obtain ⟨d1, d2⟩ := hSw; go_simp; (try (with_reducible rfl))
            try simp only [Act.put]
            refine wpAnyG_take (i := 3) (v := ?_) rfl (by kernel_rfl) (fun _ _ _ h => h) (Or.inl ⟨by rfl, ?_⟩) hHeld ?_
            rotate_left
            · intro w hSw; obtain ⟨d1, d2⟩ := hSw; go_simp; (try (with_reducible rfl))
            try simp only [Act.put]
            refine wpAnyG_take (i := 4) (v := ?_) rfl (by kernel_rfl) (fun _ _ _ h => h) (Or.inl ⟨by kernel_rfl, ?_⟩) hHeld ?_
            rotate_left
            · intro w hSw; obtain ⟨d1, d2⟩ := hSw; go_simp; (try (with_reducible rfl))
            try simp only [Act.put]
            refine wpAnyG_take (i := 5) (v := ?_) rfl (by kernel_rfl) (fun _ _ _ h => h) (Or.inl ⟨by kernel_rfl, ?_⟩) hHeld ?_
            rotate_left
            · intro w hSw; obtain ⟨d1, d2⟩ := hSw; go_simp; (try (with_reducible rfl))
            try simp only [Act.put]
            refine wpAnyG_take (i := 6) (v := ?_) rfl (by kernel_rfl) (fun _ _ _ h => h) (Or.inl ⟨by kernel_rfl, ?_⟩) hHeld ?_
            rotate_left
            · intro w hSw; obtain ⟨d1, d2⟩ := hSw; go_simp; (try (with_reducible rfl))
            try simp only [Act.put]
            refine wpAnyG_take (i := 7) (v := ?_) rfl (by kernel_rfl) (fun _ _ _ h => h) (Or.inl ⟨by kernel_rfl, ?_⟩) hHeld ?_
            rotate_left
            · intro w hSw; obtain ⟨d1, d2⟩ := hSw; go_simp; (try (with_reducible rfl))
            try simp only [Act.put]
            refine wpAnyG_take (i := 8) (v := ?_) rfl (by kernel_rfl) (fun _ _ _ h => h) (Or.inl ⟨by kernel_rfl, ?_⟩) hHeld ?_
            rotate_left
            · intro w hSw; obtain ⟨d1, d2⟩ := hSw; go_simp; (try (with_reducible rfl))
            try simp only [Act.put]
            refine wpAnyG_take (i := 9) (v := ?_) rfl (by kernel_rfl) (fun _ _ _ h => h) (Or.inl ⟨by kernel_rfl, ?_⟩) hHeld ?_
            rotate_left
            · intro w hSw; obtain ⟨d1, d2⟩ := hSw; go_simp; (try (with_reducible rfl))
            try simp only [Act.put]
            refine wpAnyG_take (i := 10) (v := ?_) rfl (by kernel_rfl) (fun _ _ _ h => h) (Or.inl ⟨by kernel_rfl, ?_⟩) hHeld ?_
            rotate_left
            · intro w hSw; obtain ⟨d1, d2⟩ := hSw; go_simp; (try (with_reducible rfl))
            try simp only [Act.put]
            refine wpAnyG_take (i := 11) (v := ?_) rfl (by kernel_rfl) (fun _ _ _ h => h) (Or.inl ⟨by kernel_rfl, ?_⟩) hHeld ?_
            rotate_left
            · intro w hSw; obtain ⟨d1, d2⟩ := hSw; go_simp; (try (with_reducible rfl))
            try simp only [Act.put]
            refine wpAnyG_take (i := 12) (v := ?_) rfl (by kernel_rfl) (fun _ _ _ h => h) (Or.inl ⟨by kernel_rfl, ?_⟩) hHeld ?_
            rotate_left
            · intro w hSw; obtain ⟨d1, d2⟩ := hSw; go_simp; (try (with_reducible rfl))
            try simp only [Act.put]
            refine wpAnyG_take (i := 13) (v := ?_) rfl (by kernel_rfl) (fun _ _ _ h => h) (Or.inl ⟨by kernel_rfl, ?_⟩) hHeld ?_
            rotate_left
            · intro w hSw; obtain ⟨d1, d2⟩ := hSw; go_simp; (try (with_reducible rfl))
            try simp only [Act.put]
            refine wpAnyG_take (i := 14) (v := ?_) rfl (by kernel_rfl) (fun _ _ _ h => h) (Or.inl ⟨by kernel_rfl, ?_⟩) hHeld ?_
            rotate_left
            · intro w hSw; obtain ⟨d1, d2⟩ := hSw; go_simp; (try (with_reducible rfl))
            try simp only [Act.put]
            refine wpAnyG_done (by kernel_rfl) ?_ _
            go_simp
            go_wp2_with fail
            go_roundw
            case rel => exact ⟨k + 1, by go_num, by omega, Hk.out.drew⟩
            case measure => simp [intOf]; omega
          | false =>
            refine wp_region_free (fun _ => true) (fun w' => w'.cell? ⟨g, k, none⟩ = some (.string ⟨y.toArray⟩) ∧ w'.cell? ⟨gl, i, none⟩ = some (.string ⟨x.toArray⟩)) (by kernel_rfl) ⟨d1, d2⟩ (fun hHeld => ?_)
            refine wpAnyG_take (i := 0) (v := ?_) rfl (by kernel_rfl) (fun _ _ _ h => h) (Or.inl ⟨by rfl, ?_⟩) hHeld ?_
            rotate_left
            · intro w hSw; obtain ⟨d1, d2⟩ := hSw; go_simp; (try (with_reducible rfl))
            simp only [Act.put, List.setIfInBounds_toArray]
            refine wpAnyG_take (i := 1) (v := ?_) rfl (by kernel_rfl) (fun _ _ _ h => h) (Or.inl ⟨by rfl, ?_⟩) hHeld ?_
            rotate_left
            · intro w hSw; obtain ⟨d1, d2⟩ := hSw; go_simp; (try (with_reducible rfl))
            try simp only [Act.put]
            refine wpAnyG_take (i := 2) (v := ?_) rfl (by kernel_rfl) (fun _ _ _ h => h) (Or.inl ⟨by rfl, ?_⟩) hHeld ?_
            rotate_left
            · intro w hSw; obtain ⟨d1, d2⟩ := hSw; go_simp; (try (with_reducible rfl))
            try simp only [Act.put]
            refine wpAnyG_take (i := 3) (v := ?_) rfl (by kernel_rfl) (fun _ _ _ h => h) (Or.inl ⟨by rfl, ?_⟩) hHeld ?_
            rotate_left
            · intro w hSw; obtain ⟨d1, d2⟩ := hSw; go_simp; (try (with_reducible rfl))
            try simp only [Act.put]
            refine wpAnyG_take (i := 4) (v := ?_) rfl (by kernel_rfl) (fun _ _ _ h => h) (Or.inl ⟨by kernel_rfl, ?_⟩) hHeld ?_
            rotate_left
            · intro w hSw; obtain ⟨d1, d2⟩ := hSw; go_simp; (try (with_reducible rfl))
            try simp only [Act.put]
            refine wpAnyG_take (i := 5) (v := ?_) rfl (by kernel_rfl) (fun _ _ _ h => h) (Or.inl ⟨by kernel_rfl, ?_⟩) hHeld ?_
            rotate_left
            · intro w hSw; obtain ⟨d1, d2⟩ := hSw; go_simp; (try (with_reducible rfl))
            try simp only [Act.put]
            refine wpAnyG_take (i := 6) (v := ?_) rfl (by kernel_rfl) (fun _ _ _ h => h) (Or.inl ⟨by kernel_rfl, ?_⟩) hHeld ?_
            rotate_left
            · intro w hSw; obtain ⟨d1, d2⟩ := hSw; go_simp; (try (with_reducible rfl))
            try simp only [Act.put]
            refine wpAnyG_take (i := 7) (v := ?_) rfl (by kernel_rfl) (fun _ _ _ h => h) (Or.inl ⟨by kernel_rfl, ?_⟩) hHeld ?_
            rotate_left
            · intro w hSw; obtain ⟨d1, d2⟩ := hSw; go_simp; (try (with_reducible rfl))
            try simp only [Act.put]
            refine wpAnyG_take (i := 8) (v := ?_) rfl (by kernel_rfl) (fun _ _ _ h => h) (Or.inl ⟨by kernel_rfl, ?_⟩) hHeld ?_
            rotate_left
            · intro w hSw; obtain ⟨d1, d2⟩ := hSw; go_simp; (try (with_reducible rfl))
            try simp only [Act.put]
            refine wpAnyG_take (i := 9) (v := ?_) rfl (by kernel_rfl) (fun _ _ _ h => h) (Or.inl ⟨by kernel_rfl, ?_⟩) hHeld ?_
            rotate_left
            · intro w hSw; obtain ⟨d1, d2⟩ := hSw; go_simp; (try (with_reducible rfl))
            try simp only [Act.put]
            refine wpAnyG_take (i := 10) (v := ?_) rfl (by kernel_rfl) (fun _ _ _ h => h) (Or.inl ⟨by kernel_rfl, ?_⟩) hHeld ?_
            rotate_left
            · intro w hSw; obtain ⟨d1, d2⟩ := hSw; go_simp; (try (with_reducible rfl))
            try simp only [Act.put]
            refine wpAnyG_take (i := 11) (v := ?_) rfl (by kernel_rfl) (fun _ _ _ h => h) (Or.inl ⟨by kernel_rfl, ?_⟩) hHeld ?_
            rotate_left
            · intro w hSw; obtain ⟨d1, d2⟩ := hSw; go_simp; (try (with_reducible rfl))
            try simp only [Act.put]
            refine wpAnyG_take (i := 12) (v := ?_) rfl (by kernel_rfl) (fun _ _ _ h => h) (Or.inl ⟨by kernel_rfl, ?_⟩) hHeld ?_
            rotate_left
            · intro w hSw; obtain ⟨d1, d2⟩ := hSw; go_simp; (try (with_reducible rfl))
            try simp only [Act.put]
            refine wpAnyG_take (i := 13) (v := ?_) rfl (by kernel_rfl) (fun _ _ _ h => h) (Or.inl ⟨by kernel_rfl, ?_⟩) hHeld ?_
            rotate_left
            · intro w hSw; obtain ⟨d1, d2⟩ := hSw; go_simp; (try (with_reducible rfl))
            try simp only [Act.put]
            refine wpAnyG_take (i := 14) (v := ?_) rfl (by kernel_rfl) (fun _ _ _ h => h) (Or.inl ⟨by kernel_rfl, ?_⟩) hHeld ?_
            rotate_left
            · intro w hSw; obtain ⟨d1, d2⟩ := hSw; go_simp; (try (with_reducible rfl))
            try simp only [Act.put]
            refine wpAnyG_done (by kernel_rfl) ?_ _
            go_simp
            go_wp2_with fail
            have d3 := Hk.out.drew.drew.cell' (row_at HO.out Hy.out) (fun e => e)
            have d4 := Hk.out.drew.drew.cell' dL (fun e => e)
            cases heq : (y == x) with
            | true =>
              refine wp_region_free (fun _ => true) (fun w' => w'.cell? ⟨g, k, none⟩ = some (.string ⟨y.toArray⟩) ∧ w'.cell? ⟨gl, i, none⟩ = some (.string ⟨x.toArray⟩)) (by kernel_rfl) ⟨d3, d4⟩ (fun hHeld => ?_)
              refine wpAnyG_take (i := 0) (v := ?_) rfl (by kernel_rfl) (fun _ _ _ h => h) (Or.inl ⟨by rfl, ?_⟩) hHeld ?_
              rotate_left
              · intro w hSw; obtain ⟨d3, d4⟩ := hSw; go_simp; (try (with_reducible rfl))
              simp only [Act.put, List.setIfInBounds_toArray]
              refine wpAnyG_take (i := 1) (v := ?_) rfl (by kernel_rfl) (fun _ _ _ h => h) (Or.inl ⟨by rfl, ?_⟩) hHeld ?_
              rotate_left
              · intro w hSw; obtain ⟨d3, d4⟩ := hSw; go_simp; (try (with_reducible rfl))
              try simp only [Act.put]
              refine wpAnyG_take (i := 2) (v := ?_) rfl (by kernel_rfl) (fun _ _ _ h => h) (Or.inl ⟨by rfl, ?_⟩) hHeld ?_
              rotate_left
              · intro w hSw; obtain ⟨d3, d4⟩ := hSw; go_simp; (try (with_reducible rfl))
              try simp only [Act.put]
              refine wpAnyG_take (i := 3) (v := ?_) rfl (by kernel_rfl) (fun _ _ _ h => h) (Or.inl ⟨by rfl, ?_⟩) hHeld ?_
              rotate_left
              · intro w hSw; obtain ⟨d3, d4⟩ := hSw; go_simp; (try (with_reducible rfl))
              try simp only [Act.put]
              refine wpAnyG_take (i := 4) (v := ?_) rfl (by kernel_rfl) (fun _ _ _ h => h) (Or.inl ⟨by kernel_rfl, ?_⟩) hHeld ?_
              rotate_left
              · intro w hSw; obtain ⟨d3, d4⟩ := hSw; go_simp; (try (with_reducible rfl))
              try simp only [Act.put]
              refine wpAnyG_take (i := 5) (v := ?_) rfl (by kernel_rfl) (fun _ _ _ h => h) (Or.inl ⟨by kernel_rfl, ?_⟩) hHeld ?_
              rotate_left
              · intro w hSw; obtain ⟨d3, d4⟩ := hSw; go_simp; (try (with_reducible rfl))
              try simp only [Act.put]
              refine wpAnyG_take (i := 6) (v := ?_) rfl (by kernel_rfl) (fun _ _ _ h => h) (Or.inl ⟨by kernel_rfl, ?_⟩) hHeld ?_
              rotate_left
              · intro w hSw; obtain ⟨d3, d4⟩ := hSw; go_simp; (try (with_reducible rfl))
              try simp only [Act.put]
              refine wpAnyG_take (i := 7) (v := ?_) rfl (by kernel_rfl) (fun _ _ _ h => h) (Or.inl ⟨by kernel_rfl, ?_⟩) hHeld ?_
              rotate_left
              · intro w hSw; obtain ⟨d3, d4⟩ := hSw; go_simp; (try (with_reducible rfl))
              try simp only [Act.put]
              refine wpAnyG_take (i := 8) (v := ?_) rfl (by kernel_rfl) (fun _ _ _ h => h) (Or.inl ⟨by kernel_rfl, ?_⟩) hHeld ?_
              rotate_left
              · intro w hSw; obtain ⟨d3, d4⟩ := hSw; go_simp; (try (with_reducible rfl))
              try simp only [Act.put]
              refine wpAnyG_take (i := 9) (v := ?_) rfl (by kernel_rfl) (fun _ _ _ h => h) (Or.inl ⟨by kernel_rfl, ?_⟩) hHeld ?_
              rotate_left
              · intro w hSw; obtain ⟨d3, d4⟩ := hSw; go_simp; (try (with_reducible rfl))
              try simp only [Act.put]
              refine wpAnyG_take (i := 10) (v := ?_) rfl (by kernel_rfl) (fun _ _ _ h => h) (Or.inl ⟨by kernel_rfl, ?_⟩) hHeld ?_
              rotate_left
              · intro w hSw; obtain ⟨d3, d4⟩ := hSw; go_simp; (try (with_reducible rfl))
              try simp only [Act.put]
              refine wpAnyG_take (i := 11) (v := ?_) rfl (by kernel_rfl) (fun _ _ _ h => h) (Or.inl ⟨by kernel_rfl, ?_⟩) hHeld ?_
              rotate_left
              · intro w hSw; obtain ⟨d3, d4⟩ := hSw; go_simp; (try (with_reducible rfl))
              try simp only [Act.put]
              refine wpAnyG_take (i := 12) (v := ?_) rfl (by kernel_rfl) (fun _ _ _ h => h) (Or.inl ⟨by kernel_rfl, ?_⟩) hHeld ?_
              rotate_left
              · intro w hSw; obtain ⟨d3, d4⟩ := hSw; go_simp; (try (with_reducible rfl))
              try simp only [Act.put]
              refine wpAnyG_take (i := 13) (v := ?_) rfl (by kernel_rfl) (fun _ _ _ h => h) (Or.inl ⟨by kernel_rfl, ?_⟩) hHeld ?_
              rotate_left
              · intro w hSw; obtain ⟨d3, d4⟩ := hSw; go_simp; (try (with_reducible rfl))
              try simp only [Act.put]
              refine wpAnyG_take (i := 14) (v := ?_) rfl (by kernel_rfl) (fun _ _ _ h => h) (Or.inl ⟨by kernel_rfl, ?_⟩) hHeld ?_
              rotate_left
              · intro w hSw; obtain ⟨d3, d4⟩ := hSw; go_simp; (try (with_reducible rfl))
              try simp only [Act.put]
              refine wpAnyG_done (by kernel_rfl) ?_ _
              go_simp
              go_wp2_with fail
              have HyX : Hid (y = x) := (show y = x by simpa using heq)
              have HM2 : Hid (∀ z, z ∈ L ↔ z ∈ l.take (i + 1)) := (show ∀ z, z ∈ L ↔ z ∈ l.take (i + 1) from fun z => by
                rw [take_mem Hx.out, ← HM.out z]
                exact ⟨fun h => .inl h, fun h => h.elim (fun h => h) (fun h => by rw [h, ← HyX.out]; exact List.mem_of_getElem? Hy.out)⟩)
              have HO2 := Lib.hid (ownsRow_chg HO.out Hk.out.drew.drew (fun _ _ e => e))
              have Hc2 : Hid (Chg (fun q => W2.heap.size ≤ q) W2 wr.drew.drew) := (show Chg (fun q => W2.heap.size ≤ q) W2 wr.drew.drew from Hc.out.trans1 Hk.out.drew.drew.any)
              go_roundw
              case rel => exact ⟨i + 1, L, by go_num, by omega, by omega, HO2, HM2, Hc2, HN⟩
              case measure => simp [intOf]; omega
            | false =>
              refine wp_region_free (fun _ => true) (fun w' => w'.cell? ⟨g, k, none⟩ = some (.string ⟨y.toArray⟩) ∧ w'.cell? ⟨gl, i, none⟩ = some (.string ⟨x.toArray⟩)) (by kernel_rfl) ⟨d3, d4⟩ (fun hHeld => ?_)
              refine wpAnyG_take (i := 0) (v := ?_) rfl (by kernel_rfl) (fun _ _ _ h => h) (Or.inl ⟨by rfl, ?_⟩) hHeld ?_
              rotate_left
              · intro w hSw; obtain ⟨d3, d4⟩ := hSw; go_simp; (try (with_reducible rfl))
              simp only [Act.put, List.setIfInBounds_toArray]
              refine wpAnyG_take (i := 1) (v := ?_) rfl (by kernel_rfl) (fun _ _ _ h => h) (Or.inl ⟨by rfl, ?_⟩) hHeld ?_
              rotate_left
              · intro w hSw; obtain ⟨d3, d4⟩ := hSw; go_simp; (try (with_reducible rfl))
              try simp only [Act.put]
              refine wpAnyG_take (i := 2) (v := ?_) rfl (by kernel_rfl) (fun _ _ _ h => h) (Or.inl ⟨by rfl, ?_⟩) hHeld ?_
              rotate_left
              · intro w hSw; obtain ⟨d3, d4⟩ := hSw; go_simp; (try (with_reducible rfl))
              try simp only [Act.put]
              refine wpAnyG_take (i := 3) (v := ?_) rfl (by kernel_rfl) (fun _ _ _ h => h) (Or.inl ⟨by rfl, ?_⟩) hHeld ?_
              rotate_left
              · intro w hSw; obtain ⟨d3, d4⟩ := hSw; go_simp; (try (with_reducible rfl))
              try simp only [Act.put]
              refine wpAnyG_take (i := 4) (v := ?_) rfl (by kernel_rfl) (fun _ _ _ h => h) (Or.inl ⟨by kernel_rfl, ?_⟩) hHeld ?_
              rotate_left
              · intro w hSw; obtain ⟨d3, d4⟩ := hSw; go_simp; (try (with_reducible rfl))
              try simp only [Act.put]
              refine wpAnyG_take (i := 5) (v := ?_) rfl (by kernel_rfl) (fun _ _ _ h => h) (Or.inl ⟨by kernel_rfl, ?_⟩) hHeld ?_
              rotate_left
              · intro w hSw; obtain ⟨d3, d4⟩ := hSw; go_simp; (try (with_reducible rfl))
              try simp only [Act.put]
              refine wpAnyG_take (i := 6) (v := ?_) rfl (by kernel_rfl) (fun _ _ _ h => h) (Or.inl ⟨by kernel_rfl, ?_⟩) hHeld ?_
              rotate_left
              · intro w hSw; obtain ⟨d3, d4⟩ := hSw; go_simp; (try (with_reducible rfl))
              try simp only [Act.put]
              refine wpAnyG_take (i := 7) (v := ?_) rfl (by kernel_rfl) (fun _ _ _ h => h) (Or.inl ⟨by kernel_rfl, ?_⟩) hHeld ?_
              rotate_left
              · intro w hSw; obtain ⟨d3, d4⟩ := hSw; go_simp; (try (with_reducible rfl))
              try simp only [Act.put]
              refine wpAnyG_take (i := 8) (v := ?_) rfl (by kernel_rfl) (fun _ _ _ h => h) (Or.inl ⟨by kernel_rfl, ?_⟩) hHeld ?_
              rotate_left
              · intro w hSw; obtain ⟨d3, d4⟩ := hSw; go_simp; (try (with_reducible rfl))
              try simp only [Act.put]
              refine wpAnyG_take (i := 9) (v := ?_) rfl (by kernel_rfl) (fun _ _ _ h => h) (Or.inl ⟨by kernel_rfl, ?_⟩) hHeld ?_
              rotate_left
              · intro w hSw; obtain ⟨d3, d4⟩ := hSw; go_simp; (try (with_reducible rfl))
              try simp only [Act.put]
              refine wpAnyG_take (i := 10) (v := ?_) rfl (by kernel_rfl) (fun _ _ _ h => h) (Or.inl ⟨by kernel_rfl, ?_⟩) hHeld ?_
              rotate_left
              · intro w hSw; obtain ⟨d3, d4⟩ := hSw; go_simp; (try (with_reducible rfl))
              try simp only [Act.put]
              refine wpAnyG_take (i := 11) (v := ?_) rfl (by kernel_rfl) (fun _ _ _ h => h) (Or.inl ⟨by kernel_rfl, ?_⟩) hHeld ?_
              rotate_left
              · intro w hSw; obtain ⟨d3, d4⟩ := hSw; go_simp; (try (with_reducible rfl))
              try simp only [Act.put]
              refine wpAnyG_take (i := 12) (v := ?_) rfl (by kernel_rfl) (fun _ _ _ h => h) (Or.inl ⟨by kernel_rfl, ?_⟩) hHeld ?_
              rotate_left
              · intro w hSw; obtain ⟨d3, d4⟩ := hSw; go_simp; (try (with_reducible rfl))
              try simp only [Act.put]
              refine wpAnyG_take (i := 13) (v := ?_) rfl (by kernel_rfl) (fun _ _ _ h => h) (Or.inl ⟨by kernel_rfl, ?_⟩) hHeld ?_
              rotate_left
              · intro w hSw; obtain ⟨d3, d4⟩ := hSw; go_simp; (try (with_reducible rfl))
              try simp only [Act.put]
              refine wpAnyG_take (i := 14) (v := ?_) rfl (by kernel_rfl) (fun _ _ _ h => h) (Or.inl ⟨by kernel_rfl, ?_⟩) hHeld ?_
              rotate_left
              · intro w hSw; obtain ⟨d3, d4⟩ := hSw; go_simp; (try (with_reducible rfl))
              try simp only [Act.put]
              refine wpAnyG_done (by kernel_rfl) ?_ _
              go_simp
              go_upto_region 11 with fail
              have hk4 : Chg Nob W3 (wr.drew.drew) := Hk.out.drew.drew
              generalize wr.drew.drew = W4 at *
              have HO4 := ownsRow_chg HO.out hk4 (fun _ _ e => e)
              have Hk4 := Lib.hid hk4
              obtain ⟨vA, WA, hrunA, hrowA, hgrA⟩ := append_cells' (B := W4.heap.size) (v := .slice none 0 0) (n := 0) (m := k) (xs := []) (a := ⟨g, 0, none⟩) (M := L.take k) oc (by rw [List.length_take]; omega) (nil_row _ _) (Nat.le_refl _) (by omega) (fun j z hz => by
                have hjk : j < k := by have := (List.getElem?_eq_some_iff.1 hz).1; rw [List.length_take] at this; omega
                rw [List.getElem?_take, if_pos hjk] at hz
                rw [Go.WideShapes.add_plain, Nat.zero_add]
                exact row_at HO4 hz)
              have hcA := grown_none hgrA
              rw [Nat.zero_add, List.nil_append] at hrowA
              obtain ⟨aoA, cA, hsA⟩ := ownsRow_shape hrowA
              subst hsA
              have hzA := hcA.size
              obtain ⟨gB, cB, WB, hrunB, hrowB, hgrB, hliesB, hgB⟩ := append9 (w := WA.alloc (.cells #[.string ⟨x.toArray⟩] 9)) (B := W4.heap.size) (y := ⟨x.toArray⟩) (ownsRow_chg hrowA ((Chg.refl Nob WA).alloc (.cells #[.string ⟨x.toArray⟩] 9)) (fun _ _ e => e)) (by rw [World.size_alloc]; omega) (by omega) (heap_alloc_new _ _)
              have hcB : Chg (fun q => W4.heap.size ≤ q) W4 WB := (hcA.any.trans1 ((Chg.refl Nob WA).alloc (.cells #[.string ⟨x.toArray⟩] 9)).any).grown hgrB (fun q hq _ => (hrowA.lt q hq).1)
              obtain ⟨vC, WC, hrunC, hrowC, hgrC⟩ := append_cells' (m := L.length - k) (a := ⟨g, k, none⟩) (M := L.drop k) (oc - k) (by rw [List.length_drop]) hrowB (by have := hcB.size; omega) (by omega) (fun j z hz => by
                rw [List.getElem?_drop] at hz
                rw [Go.WideShapes.add_plain]
                exact hcB.cell' (row_at HO4 hz) (fun e => by have := (HO4.lt g rfl).2; have e : W4.heap.size ≤ g := e; omega))
              have hcC : Chg (fun q => W4.heap.size ≤ q) W4 WC := hcB.grown hgrC (fun q hq _ => (hrowB.lt q hq).1)
              have hIe : (L.take k).map strV ++ [.string ⟨x.toArray⟩] ++ (L.drop k).map strV = (insAt L k x).map strV := by unfold insAt; rw [List.map_append, List.map_append]; rfl
              have hIl : k + 1 + (L.length - k) = (insAt L k x).length := by rw [insAt_len]; omega
              rw [hIe, hIl] at hrowC
              have HrowC : Hid (WC.ownsRow W2.heap.size 9 1 vC (insAt L k x).length ((insAt L k x).map strV)) := (show WC.ownsRow W2.heap.size 9 1 vC _ _ from ownsRow_mono hrowC (by have h1 := hk4.size; have h2 := Hc.out.size; omega))
              have HcC : Hid (Chg (fun q => W2.heap.size ≤ q) W2 WC) := (show Chg (fun q => W2.heap.size ≤ q) W2 WC from (Hc.out.trans1 hk4.any).trans hcC (fun q _ e => by have h1 := hk4.size; have h2 := Hc.out.size; have e : W4.heap.size ≤ q := e; show W2.heap.size ≤ q; omega))
              have HMC : Hid (∀ z, z ∈ insAt L k x ↔ z ∈ l.take (i + 1)) := (show ∀ z, z ∈ insAt L k x ↔ z ∈ l.take (i + 1) from fun z => by rw [insAt_mem, take_mem Hx.out, HM.out z])
              have HrunA := Lib.hid hrunA
              have HrunB := Lib.hid hrunB
              have HrunC := Lib.hid hrunC
              have dL4 := hk4.cell' dL (fun e => e)
              have dLA := hcA.cell' dL4 (fun e => e)
              have HNC : Hid (insAt L k x = [] → vC = .slice none 0 0) := (show _ from fun h => by have h := congrArg List.length h; rw [insAt_len] at h; cases h)
              have tokA : True := trivial
              have tokB : True := trivial
              have tokC : True := trivial
              clear hrunA hrunB hrunC hrowA hrowB hrowC hgrA hgrB hgrC hliesB hgB hcA hcB hcC hIe hIl HO4 hk4
              go_wp2_with (first | (have _t := tokA; clear _t tokA; refine wpList_append_known rfl _ _ 25 25 rfl _ _ rfl rfl _ WA HrunA.out ?_) | (have _t := tokB; clear _t tokB; refine wpList_append_known rfl _ _ 25 25 rfl _ _ rfl rfl _ WB HrunB.out ?_) | (have _t := tokC; clear _t tokC; refine wpList_append_known rfl _ _ 25 25 rfl _ _ rfl rfl _ WC HrunC.out ?_))
              go_roundw
              case rel => exact ⟨i + 1, insAt L k x, by go_num, by omega, by rw [insAt_len]; omega, HrowC, HMC, HcC, HNC⟩
              case measure => simp [intOf]; omega
        · have Hke : Hid (k = L.length) := (show k = L.length by omega)
          have hkn : decide (k < L.length) = false := decide_eq_false (by omega)
          have hk0 : (0 : Int) ≤ (k : Int) := by omega
          have hki : (k : Int) ≤ (L.length : Int) := by omega
          clear hkl
          have d2 := Hk.out.drew.cell' dL (fun e => e)
          go_wp2_with fail
          refine wp_region_free (fun _ => true) (fun w' => w'.cell? ⟨gl, i, none⟩ = some (.string ⟨x.toArray⟩)) (by kernel_rfl) d2 (fun hHeld => ?_)
          refine wpAnyG_take (i := 0) (v := ?_) rfl (by kernel_rfl) (fun _ _ _ h => h) (Or.inl ⟨by rfl, ?_⟩) hHeld ?_
          rotate_left
          · intro w hSw; have d2 := hSw; go_simp; (try (with_reducible rfl))
          simp only [Act.put, List.setIfInBounds_toArray]
          refine wpAnyG_take (i := 1) (v := ?_) rfl (by kernel_rfl) (fun _ _ _ h => h) (Or.inl ⟨by rfl, ?_⟩) hHeld ?_
          rotate_left
          · intro w hSw; have d2 := hSw; go_simp; (try (with_reducible rfl))
          try simp only [Act.put]
          refine wpAnyG_take (i := 2) (v := ?_) rfl (by kernel_rfl) (fun _ _ _ h => h) (Or.inl ⟨by rfl, ?_⟩) hHeld ?_
          rotate_left
          · intro w hSw; have d2 := hSw; go_simp; (try (with_reducible rfl))
          try simp only [Act.put]
          refine wpAnyG_take (i := 3) (v := ?_) rfl (by kernel_rfl) (fun _ _ _ h => h) (Or.inl ⟨by rfl, ?_⟩) hHeld ?_
          rotate_left
          · intro w hSw; have d2 := hSw; go_simp; (try (with_reducible rfl))
          try simp only [Act.put]
          refine wpAnyG_take (i := 4) (v := ?_) rfl (by kernel_rfl) (fun _ _ _ h => h) (Or.inl ⟨by kernel_rfl, ?_⟩) hHeld ?_
          rotate_left
          · intro w hSw; have d2 := hSw; go_simp; (try (with_reducible rfl))
          try simp only [Act.put]
          refine wpAnyG_take (i := 5) (v := undef) rfl (by kernel_rfl) (fun _ _ _ h => h) (Or.inr ⟨by kernel_rfl, rfl⟩) hHeld ?_
          try simp only [Act.put]
          refine wpAnyG_take (i := 6) (v := undef) rfl (by kernel_rfl) (fun _ _ _ h => h) (Or.inr ⟨by kernel_rfl, rfl⟩) hHeld ?_
          try simp only [Act.put]
          refine wpAnyG_take (i := 7) (v := undef) rfl (by kernel_rfl) (fun _ _ _ h => h) (Or.inr ⟨by kernel_rfl, rfl⟩) hHeld ?_
          try simp only [Act.put]
          refine wpAnyG_take (i := 8) (v := undef) rfl (by kernel_rfl) (fun _ _ _ h => h) (Or.inr ⟨by kernel_rfl, rfl⟩) hHeld ?_
          try simp only [Act.put]
          refine wpAnyG_take (i := 9) (v := undef) rfl (by kernel_rfl) (fun _ _ _ h => h) (Or.inr ⟨by kernel_rfl, rfl⟩) hHeld ?_
          try simp only [Act.put]
          refine wpAnyG_take (i := 10) (v := undef) rfl (by kernel_rfl) (fun _ _ _ h => h) (Or.inr ⟨by kernel_rfl, rfl⟩) hHeld ?_
          try simp only [Act.put]
          refine wpAnyG_take (i := 11) (v := undef) rfl (by kernel_rfl) (fun _ _ _ h => h) (Or.inr ⟨by kernel_rfl, rfl⟩) hHeld ?_
          try simp only [Act.put]
          refine wpAnyG_take (i := 12) (v := undef) rfl (by kernel_rfl) (fun _ _ _ h => h) (Or.inr ⟨by kernel_rfl, rfl⟩) hHeld ?_
          try simp only [Act.put]
          refine wpAnyG_take (i := 13) (v := undef) rfl (by kernel_rfl) (fun _ _ _ h => h) (Or.inr ⟨by kernel_rfl, rfl⟩) hHeld ?_
          try simp only [Act.put]
          refine wpAnyG_take (i := 14) (v := ?_) rfl (by kernel_rfl) (fun _ _ _ h => h) (Or.inl ⟨by kernel_rfl, ?_⟩) hHeld ?_
          rotate_left
          · intro w hSw; have d2 := hSw; go_simp; (try (with_reducible rfl))
          try simp only [Act.put]
          refine wpAnyG_done (by kernel_rfl) ?_ _
          go_simp
          go_wp2_with fail
          have d4 := Hk.out.drew.drew.cell' dL (fun e => e)
          refine wp_region_free (fun _ => true) (fun w' => w'.cell? ⟨gl, i, none⟩ = some (.string ⟨x.toArray⟩)) (by kernel_rfl) d4 (fun hHeld => ?_)
          refine wpAnyG_take (i := 0) (v := ?_) rfl (by kernel_rfl) (fun _ _ _ h => h) (Or.inl ⟨by rfl, ?_⟩) hHeld ?_
          rotate_left
          · intro w hSw; have d4 := hSw; go_simp; (try (with_reducible rfl))
          simp only [Act.put, List.setIfInBounds_toArray]
          refine wpAnyG_take (i := 1) (v := ?_) rfl (by kernel_rfl) (fun _ _ _ h => h) (Or.inl ⟨by rfl, ?_⟩) hHeld ?_
          rotate_left
          · intro w hSw; have d4 := hSw; go_simp; (try (with_reducible rfl))
          try simp only [Act.put]
          refine wpAnyG_take (i := 2) (v := ?_) rfl (by kernel_rfl) (fun _ _ _ h => h) (Or.inl ⟨by rfl, ?_⟩) hHeld ?_
          rotate_left
          · intro w hSw; have d4 := hSw; go_simp; (try (with_reducible rfl))
          try simp only [Act.put]
          refine wpAnyG_take (i := 3) (v := ?_) rfl (by kernel_rfl) (fun _ _ _ h => h) (Or.inl ⟨by rfl, ?_⟩) hHeld ?_
          rotate_left
          · intro w hSw; have d4 := hSw; go_simp; (try (with_reducible rfl))
          try simp only [Act.put]
          refine wpAnyG_take (i := 4) (v := ?_) rfl (by kernel_rfl) (fun _ _ _ h => h) (Or.inl ⟨by kernel_rfl, ?_⟩) hHeld ?_
          rotate_left
          · intro w hSw; have d4 := hSw; go_simp; (try (with_reducible rfl))
          try simp only [Act.put]
          refine wpAnyG_take (i := 5) (v := undef) rfl (by kernel_rfl) (fun _ _ _ h => h) (Or.inr ⟨by kernel_rfl, rfl⟩) hHeld ?_
          try simp only [Act.put]
          refine wpAnyG_take (i := 6) (v := undef) rfl (by kernel_rfl) (fun _ _ _ h => h) (Or.inr ⟨by kernel_rfl, rfl⟩) hHeld ?_
          try simp only [Act.put]
          refine wpAnyG_take (i := 7) (v := undef) rfl (by kernel_rfl) (fun _ _ _ h => h) (Or.inr ⟨by kernel_rfl, rfl⟩) hHeld ?_
          try simp only [Act.put]
          refine wpAnyG_take (i := 8) (v := undef) rfl (by kernel_rfl) (fun _ _ _ h => h) (Or.inr ⟨by kernel_rfl, rfl⟩) hHeld ?_
          try simp only [Act.put]
          refine wpAnyG_take (i := 9) (v := undef) rfl (by kernel_rfl) (fun _ _ _ h => h) (Or.inr ⟨by kernel_rfl, rfl⟩) hHeld ?_
          try simp only [Act.put]
          refine wpAnyG_take (i := 10) (v := undef) rfl (by kernel_rfl) (fun _ _ _ h => h) (Or.inr ⟨by kernel_rfl, rfl⟩) hHeld ?_
          try simp only [Act.put]
          refine wpAnyG_take (i := 11) (v := undef) rfl (by kernel_rfl) (fun _ _ _ h => h) (Or.inr ⟨by kernel_rfl, rfl⟩) hHeld ?_
          try simp only [Act.put]
          refine wpAnyG_take (i := 12) (v := undef) rfl (by kernel_rfl) (fun _ _ _ h => h) (Or.inr ⟨by kernel_rfl, rfl⟩) hHeld ?_
          try simp only [Act.put]
          refine wpAnyG_take (i := 13) (v := undef) rfl (by kernel_rfl) (fun _ _ _ h => h) (Or.inr ⟨by kernel_rfl, rfl⟩) hHeld ?_
          try simp only [Act.put]
          refine wpAnyG_take (i := 14) (v := ?_) rfl (by kernel_rfl) (fun _ _ _ h => h) (Or.inl ⟨by kernel_rfl, ?_⟩) hHeld ?_
          rotate_left
          · intro w hSw; have d4 := hSw; go_simp; (try (with_reducible rfl))
          try simp only [Act.put]
          refine wpAnyG_done (by kernel_rfl) ?_ _
          go_simp
          go_upto_region 11 with fail
          rcases Nat.eq_zero_or_pos L.length with h0 | h0
          · have hL0 : L = [] := List.eq_nil_of_length_eq_zero h0
            subst hL0
            obtain rfl : k = 0 := by have := Hke.out; simpa using this
            have hoN := HN.out rfl
            injection hoN with e1 e2 e3
            subst e1 e3
            have hk4 : Chg Nob W3 (wr.drew.drew) := Hk.out.drew.drew
            generalize wr.drew.drew = W4 at *
            have Hk4 := Lib.hid hk4
            obtain ⟨gB, cB, WB, hrunB, hrowB, hgrB, hliesB, hgB⟩ := append9 (w := W4.alloc (.cells #[.string ⟨x.toArray⟩] 9)) (B := W4.heap.size) (y := ⟨x.toArray⟩) (v := .slice none 0 0) (n := 0) (xs := []) (nil_row _ _) (by rw [World.size_alloc]; omega) (by omega) (heap_alloc_new _ _)
            have hcB : Chg Nob W4 WB := ((Chg.refl Nob W4).alloc (.cells #[.string ⟨x.toArray⟩] 9)).trans1 (grown_none hgrB)
            have HrowC : Hid (WB.ownsRow W2.heap.size 9 1 (.slice (some ⟨gB, 0, none⟩) 1 cB) (insAt [] 0 x).length ((insAt [] 0 x).map strV)) := (show WB.ownsRow W2.heap.size 9 1 (.slice (some ⟨gB, 0, none⟩) 1 cB) 1 [.string ⟨x.toArray⟩] from ownsRow_mono hrowB (by have h1 := hk4.size; have h2 := Hc.out.size; omega))
            have HcC : Hid (Chg (fun q => W2.heap.size ≤ q) W2 WB) := (show Chg (fun q => W2.heap.size ≤ q) W2 WB from (Hc.out.trans1 hk4.any).trans1 hcB.any)
            have HMC : Hid (∀ z, z ∈ insAt [] 0 x ↔ z ∈ l.take (i + 1)) := (show ∀ z, z ∈ insAt [] 0 x ↔ z ∈ l.take (i + 1) from fun z => by rw [insAt_mem, take_mem Hx.out, HM.out z])
            have HNC : Hid (insAt [] 0 x = [] → (Value.slice (some ⟨gB, 0, none⟩) 1 cB) = .slice none 0 0) := (show _ from fun h => by cases h)
            have HrunA := Lib.hid (append_none (nil_row W4 W4.heap.size))
            have HrunB := Lib.hid hrunB
            have HrunC := Lib.hid (append_none hrowB)
            have tokC : True := trivial
            have dL4 := hk4.cell' dL (fun e => e)
            have tokA : True := trivial
            have tokB : True := trivial
            clear hrunB hrowB hgrB hliesB hgB hcB hk4 hkn hk0 hki hk hLi h0
            go_wp2_with (first | (have _t := tokA; clear _t tokA; refine wpList_append_known rfl _ _ 25 25 rfl _ _ rfl rfl _ W4 HrunA.out ?_) | (have _t := tokB; clear _t tokB; refine wpList_append_known rfl _ _ 25 25 rfl _ _ rfl rfl _ WB HrunB.out ?_) | (have _t := tokC; clear _t tokC; refine wpList_append_known rfl _ _ 25 25 rfl _ _ rfl rfl _ WB HrunC.out ?_))
            go_roundw
            case rel => exact ⟨i + 1, insAt [] 0 x, by go_num, by omega, by rw [insAt_len]; simp, HrowC, HMC, HcC, HNC⟩
            case measure => simp [intOf]; omega
          · obtain ⟨g, oc2, hvo, hcap⟩ := row_shape HO.out h0
            cases hvo
            by_cases hock : oc = k
            · subst hock
              have hk4 : Chg Nob W3 (wr.drew.drew) := Hk.out.drew.drew
              generalize wr.drew.drew = W4 at *
              have HO4 := ownsRow_chg HO.out hk4 (fun _ _ e => e)
              have Hk4 := Lib.hid hk4
              obtain ⟨vA, WA, hrunA, hrowA, hgrA⟩ := append_cells' (B := W4.heap.size) (v := .slice none 0 0) (n := 0) (m := oc) (xs := []) (a := ⟨g, 0, none⟩) (M := L.take oc) oc (by rw [List.length_take]; omega) (nil_row _ _) (Nat.le_refl _) (by omega) (fun j z hz => by
                have hjk : j < oc := by have := (List.getElem?_eq_some_iff.1 hz).1; rw [List.length_take] at this; omega
                rw [List.getElem?_take, if_pos hjk] at hz
                rw [Go.WideShapes.add_plain, Nat.zero_add]
                exact row_at HO4 hz)
              have hcA := grown_none hgrA
              rw [Nat.zero_add, List.nil_append] at hrowA
              obtain ⟨aoA, cA, hsA⟩ := ownsRow_shape hrowA
              subst hsA
              have hzA := hcA.size
              obtain ⟨gB, cB, WB, hrunB, hrowB, hgrB, hliesB, hgB⟩ := append9 (w := WA.alloc (.cells #[.string ⟨x.toArray⟩] 9)) (B := W4.heap.size) (y := ⟨x.toArray⟩) (ownsRow_chg hrowA ((Chg.refl Nob WA).alloc (.cells #[.string ⟨x.toArray⟩] 9)) (fun _ _ e => e)) (by rw [World.size_alloc]; omega) (by omega) (heap_alloc_new _ _)
              have hcB : Chg (fun q => W4.heap.size ≤ q) W4 WB := (hcA.any.trans1 ((Chg.refl Nob WA).alloc (.cells #[.string ⟨x.toArray⟩] 9)).any).grown hgrB (fun q hq _ => (hrowA.lt q hq).1)
              obtain ⟨vC, WC, hrunC, hrowC0, hgrC⟩ := append_cells' (m := 0) (a := ⟨g, 0, none⟩) (M := []) 0 rfl hrowB (by have := hcB.size; omega) (by omega) (fun j z hz => by cases hz)
              have hdr : L.drop oc = [] := List.drop_eq_nil_of_le (by have := Hke.out; omega)
              have hrowC : WC.ownsRow W4.heap.size 9 1 vC (oc + 1 + (L.length - oc)) ((L.take oc).map strV ++ [.string ⟨x.toArray⟩] ++ (L.drop oc).map strV) := by
                rw [hdr, show L.length - oc = 0 by have := Hke.out; omega]; exact hrowC0
              clear hrowC0 hdr
              have hcC : Chg (fun q => W4.heap.size ≤ q) W4 WC := hcB.grown hgrC (fun q hq _ => (hrowB.lt q hq).1)
              have hIe : (L.take oc).map strV ++ [.string ⟨x.toArray⟩] ++ (L.drop oc).map strV = (insAt L oc x).map strV := by unfold insAt; rw [List.map_append, List.map_append]; rfl
              have hIl : oc + 1 + (L.length - oc) = (insAt L oc x).length := by rw [insAt_len]; omega
              rw [hIe, hIl] at hrowC
              have HrowC : Hid (WC.ownsRow W2.heap.size 9 1 vC (insAt L oc x).length ((insAt L oc x).map strV)) := (show WC.ownsRow W2.heap.size 9 1 vC _ _ from ownsRow_mono hrowC (by have h1 := hk4.size; have h2 := Hc.out.size; omega))
              have HcC : Hid (Chg (fun q => W2.heap.size ≤ q) W2 WC) := (show Chg (fun q => W2.heap.size ≤ q) W2 WC from (Hc.out.trans1 hk4.any).trans hcC (fun q _ e => by have h1 := hk4.size; have h2 := Hc.out.size; have e : W4.heap.size ≤ q := e; show W2.heap.size ≤ q; omega))
              have HMC : Hid (∀ z, z ∈ insAt L oc x ↔ z ∈ l.take (i + 1)) := (show ∀ z, z ∈ insAt L oc x ↔ z ∈ l.take (i + 1) from fun z => by rw [insAt_mem, take_mem Hx.out, HM.out z])
              have HrunA := Lib.hid hrunA
              have HrunB := Lib.hid hrunB
              have HrunC := Lib.hid hrunC
              have dL4 := hk4.cell' dL (fun e => e)
              have dLA := hcA.cell' dL4 (fun e => e)
              have HNC : Hid (insAt L oc x = [] → vC = .slice none 0 0) := (show _ from fun h => by have h := congrArg List.length h; rw [insAt_len] at h; cases h)
              have tokA : True := trivial
              have tokB : True := trivial
              have tokC : True := trivial
              clear hrunA hrunB hrunC hrowA hrowB hrowC hgrA hgrB hgrC hliesB hgB hcA hcB hcC hIe hIl HO4 hk4
              go_wp2_with (first | (have _t := tokA; clear _t tokA; refine wpList_append_known rfl _ _ 25 25 rfl _ _ rfl rfl _ WA HrunA.out ?_) | (have _t := tokB; clear _t tokB; refine wpList_append_known rfl _ _ 25 25 rfl _ _ rfl rfl _ WB HrunB.out ?_) | (have _t := tokC; clear _t tokC; refine wpList_append_known rfl _ _ 25 25 rfl _ _ rfl rfl _ WC HrunC.out ?_))
              go_roundw
              case rel => exact ⟨i + 1, insAt L oc x, by go_num, by omega, by rw [insAt_len]; omega, HrowC, HMC, HcC, HNC⟩
              case measure => simp [intOf]; omega
            · have hock2 : k < oc := by have := Hke.out; omega
              have hock3 : ¬ k = oc := by omega
              have hk4 : Chg Nob W3 (wr.drew.drew) := Hk.out.drew.drew
              generalize wr.drew.drew = W4 at *
              have HO4 := ownsRow_chg HO.out hk4 (fun _ _ e => e)
              have Hk4 := Lib.hid hk4
              obtain ⟨vA, WA, hrunA, hrowA, hgrA⟩ := append_cells' (B := W4.heap.size) (v := .slice none 0 0) (n := 0) (m := k) (xs := []) (a := ⟨g, 0, none⟩) (M := L.take k) oc (by rw [List.length_take]; omega) (nil_row _ _) (Nat.le_refl _) (by omega) (fun j z hz => by
                have hjk : j < k := by have := (List.getElem?_eq_some_iff.1 hz).1; rw [List.length_take] at this; omega
                rw [List.getElem?_take, if_pos hjk] at hz
                rw [Go.WideShapes.add_plain, Nat.zero_add]
                exact row_at HO4 hz)
              have hcA := grown_none hgrA
              rw [Nat.zero_add, List.nil_append] at hrowA
              obtain ⟨aoA, cA, hsA⟩ := ownsRow_shape hrowA
              subst hsA
              have hzA := hcA.size
              obtain ⟨gB, cB, WB, hrunB, hrowB, hgrB, hliesB, hgB⟩ := append9 (w := WA.alloc (.cells #[.string ⟨x.toArray⟩] 9)) (B := W4.heap.size) (y := ⟨x.toArray⟩) (ownsRow_chg hrowA ((Chg.refl Nob WA).alloc (.cells #[.string ⟨x.toArray⟩] 9)) (fun _ _ e => e)) (by rw [World.size_alloc]; omega) (by omega) (heap_alloc_new _ _)
              have hcB : Chg (fun q => W4.heap.size ≤ q) W4 WB := (hcA.any.trans1 ((Chg.refl Nob WA).alloc (.cells #[.string ⟨x.toArray⟩] 9)).any).grown hgrB (fun q hq _ => (hrowA.lt q hq).1)
              obtain ⟨vC, WC, hrunC, hrowC, hgrC⟩ := append_cells' (m := L.length - k) (a := ⟨g, k, none⟩) (M := L.drop k) (oc - k) (by rw [List.length_drop]) hrowB (by have := hcB.size; omega) (by omega) (fun j z hz => by
                rw [List.getElem?_drop] at hz
                rw [Go.WideShapes.add_plain]
                exact hcB.cell' (row_at HO4 hz) (fun e => by have := (HO4.lt g rfl).2; have e : W4.heap.size ≤ g := e; omega))
              have hcC : Chg (fun q => W4.heap.size ≤ q) W4 WC := hcB.grown hgrC (fun q hq _ => (hrowB.lt q hq).1)
              have hIe : (L.take k).map strV ++ [.string ⟨x.toArray⟩] ++ (L.drop k).map strV = (insAt L k x).map strV := by unfold insAt; rw [List.map_append, List.map_append]; rfl
              have hIl : k + 1 + (L.length - k) = (insAt L k x).length := by rw [insAt_len]; omega
              rw [hIe, hIl] at hrowC
              have HrowC : Hid (WC.ownsRow W2.heap.size 9 1 vC (insAt L k x).length ((insAt L k x).map strV)) := (show WC.ownsRow W2.heap.size 9 1 vC _ _ from ownsRow_mono hrowC (by have h1 := hk4.size; have h2 := Hc.out.size; omega))
              have HcC : Hid (Chg (fun q => W2.heap.size ≤ q) W2 WC) := (show Chg (fun q => W2.heap.size ≤ q) W2 WC from (Hc.out.trans1 hk4.any).trans hcC (fun q _ e => by have h1 := hk4.size; have h2 := Hc.out.size; have e : W4.heap.size ≤ q := e; show W2.heap.size ≤ q; omega))
              have HMC : Hid (∀ z, z ∈ insAt L k x ↔ z ∈ l.take (i + 1)) := (show ∀ z, z ∈ insAt L k x ↔ z ∈ l.take (i + 1) from fun z => by rw [insAt_mem, take_mem Hx.out, HM.out z])
              have HrunA := Lib.hid hrunA
              have HrunB := Lib.hid hrunB
              have HrunC := Lib.hid hrunC
              have dL4 := hk4.cell' dL (fun e => e)
              have dLA := hcA.cell' dL4 (fun e => e)
              have HNC : Hid (insAt L k x = [] → vC = .slice none 0 0) := (show _ from fun h => by have h := congrArg List.length h; rw [insAt_len] at h; cases h)
              have tokA : True := trivial
              have tokB : True := trivial
              have tokC : True := trivial
              clear hrunA hrunB hrunC hrowA hrowB hrowC hgrA hgrB hgrC hliesB hgB hcA hcB hcC hIe hIl HO4 hk4
              go_wp2_with (first | (have _t := tokA; clear _t tokA; refine wpList_append_known rfl _ _ 25 25 rfl _ _ rfl rfl _ WA HrunA.out ?_) | (have _t := tokB; clear _t tokB; refine wpList_append_known rfl _ _ 25 25 rfl _ _ rfl rfl _ WB HrunB.out ?_) | (have _t := tokC; clear _t tokC; refine wpList_append_known rfl _ _ 25 25 rfl _ _ rfl rfl _ WC HrunC.out ?_))
              go_roundw
              case rel => exact ⟨i + 1, insAt L k x, by go_num, by omega, by rw [insAt_len]; omega, HrowC, HMC, HcC, HNC⟩
              case measure => simp [intOf]; omega
    · obtain rfl : i = l.length := by omega
      have HM' : Hid (∀ x, x ∈ L ↔ x ∈ PL.namesF f) := (show ∀ x, x ∈ L ↔ x ∈ PL.namesF f by rw [← Hl.out]; have h := HM.out; rw [List.take_length] at h; exact h)
      have HF := Lib.hid (ownsRow_mono HO.out (B' := w.heap.size) (by have := Hcw2.out.size; omega))
      clear HM HO
      go_wp2
      go_ret
      exact ⟨hcw.out, _, L, rfl, HF.out, HM'.out, by omega⟩
end Go.Proofs.YtkgfdgfhpdhhaaaGreat
namespace Go.Proofs.YtkgfdgfhpdhhaaaGreat
open Go.ChangeShapes Go.WideShapes Go.RowKit

set_option maxRecDepth 100000 in
set_option maxHeartbeats 4000000 in
theorem subset_any {w : World} {B1 B2 : Nat} {va vb : Value} {A B : List (List UInt8)} (hA : w.ownsRow B1 9 1 va A.length (A.map strV)) (hB : w.ownsRow B2 9 1 vb B.length (B.map strV)) (hla : A.length ≤ 400000) (hlb : B.length ≤ 400000) (hs : ∀ x ∈ A, x ∈ B) :
    Calls Tryz.prog 21 #[va, vb] w fun e w' => e = .returned (.bool true) ∧ Chg Nob w w' := by
  have HA := Lib.hid hA
  have HB := Lib.hid hB
  have Hs := Lib.hid hs
  obtain ⟨aa, ca, ea⟩ := ownsRow_shape hA
  obtain ⟨ab, cb, eb⟩ := ownsRow_shape hB
  subst ea eb
  clear hA hB hs
  go_enter Tryz.func21, Tryz.ntmps21
  go_wp2_with fail
  go_loopw [5] (fun iv wr => ∃ i : Nat, iv = .int .i64 (i : Int) ∧ i ≤ A.length ∧ Hid (Chg Nob w wr)) (fun iv _ => A.length - (intOf iv).toNat)
  case atStart => exact ⟨0, rfl, Nat.zero_le _, Chg.refl _ _⟩
  case round =>
    obtain ⟨i, rfl, hi, Hc⟩ := hrel
    by_cases hlt : i < A.length
    · obtain ⟨x, hx⟩ : ∃ x, A[i]? = some x := ⟨_, List.getElem?_eq_getElem hlt⟩
      have Hxb := Lib.hid (Hs.out x (List.mem_of_getElem? hx))
      obtain ⟨ga, ca2, hva, _⟩ := row_shape HA.out (by omega)
      cases hva
      have hii : (i : Int) < (A.length : Int) := by omega
      have hi0 : (0 : Int) ≤ (i : Int) := by omega
      have dA := Hc.out.cell' (row_at HA.out hx) (fun e => e)
      clear hx
      obtain ⟨W3, hW3⟩ : ∃ X, X = wr := ⟨_, rfl⟩
      subst hW3
      go_wp2_with fail
      go_loopw [6, 7] (fun mv kv wk => ∃ (k : Nat) (mb : Bool), kv = .int .i64 (k : Int) ∧ mv = .bool mb ∧ k ≤ B.length ∧ Hid (mb = true ↔ x ∈ B.take k) ∧ Hid (Chg Nob W3 wk)) (fun _ kv _ => B.length - (intOf kv).toNat)
      case atStart => exact ⟨0, false, rfl, rfl, Nat.zero_le _, (by show _ ↔ _; simp), Chg.refl _ _⟩
      case round =>
        obtain ⟨k, mb, rfl, rfl, hk, Hm, Hk⟩ := hrel
        by_cases hkl : k < B.length
        · obtain ⟨y, hy⟩ : ∃ y, B[k]? = some y := ⟨_, List.getElem?_eq_getElem hkl⟩
          obtain ⟨gb, cb2, hvb, _⟩ := row_shape HB.out (by omega)
          cases hvb
          have hki : (k : Int) < (B.length : Int) := by omega
          have hk0 : (0 : Int) ≤ (k : Int) := by omega
          have d1 := Hk.out.drew.cell' dA (fun e => e)
          have d2 := (Hc.out.trans1 Hk.out.drew).cell' (row_at HB.out hy) (fun e => e)
          have Hy := Lib.hid hy
          have Hm2 : Hid (∀ b : Bool, (b = (mb || (x == y))) → (b = true ↔ x ∈ B.take (k + 1))) := (show ∀ b : Bool, _ → _ from fun b hb => by
            rw [take_mem Hy.out, ← Hm.out, hb, Bool.or_eq_true, beq_iff_eq])
          clear hy
          cases mb with
          | true =>
            go_wp2_with fail
            refine wp_region_free (fun _ => true) (fun w' => w'.cell? ⟨ga, i, none⟩ = some (.string ⟨x.toArray⟩) ∧ w'.cell? ⟨gb, k, none⟩ = some (.string ⟨y.toArray⟩)) (by kernel_rfl) ⟨d1, d2⟩ (fun hHeld => ?_)
            refine wpAnyG_take (i := 0) (v := ?_) rfl (by kernel_rfl) (fun _ _ _ h => h) (Or.inl ⟨by rfl, ?_⟩) hHeld ?_
            rotate_left
            · intro w hSw; obtain ⟨d1, d2⟩ := hSw; go_simp; (try (with_reducible rfl))
            simp only [Act.put, List.setIfInBounds_toArray]
            refine wpAnyG_take (i := 1) (v := ?_) rfl (by kernel_rfl) (fun _ _ _ h => h) (Or.inl ⟨by rfl, ?_⟩) hHeld ?_
            rotate_left
            · intro w hSw; obtain ⟨d1, d2⟩ := hSw; go_simp; (try (with_reducible rfl))
            try simp only [Act.put]
            refine wpAnyG_take (i := 2) (v := undef) rfl (by kernel_rfl) (fun _ _ _ h => h) (Or.inr ⟨by kernel_rfl, rfl⟩) hHeld ?_
            try simp only [Act.put]
            refine wpAnyG_take (i := 3) (v := undef) rfl (by kernel_rfl) (fun _ _ _ h => h) (Or.inr ⟨by kernel_rfl, rfl⟩) hHeld ?_
            try simp only [Act.put]
            refine wpAnyG_take (i := 4) (v := undef) rfl (by kernel_rfl) (fun _ _ _ h => h) (Or.inr ⟨by kernel_rfl, rfl⟩) hHeld ?_
            try simp only [Act.put]
            refine wpAnyG_take (i := 5) (v := undef) rfl (by kernel_rfl) (fun _ _ _ h => h) (Or.inr ⟨by kernel_rfl, rfl⟩) hHeld ?_
            try simp only [Act.put]
            refine wpAnyG_take (i := 6) (v := undef) rfl (by kernel_rfl) (fun _ _ _ h => h) (Or.inr ⟨by kernel_rfl, rfl⟩) hHeld ?_
            try simp only [Act.put]
            refine wpAnyG_take (i := 7) (v := undef) rfl (by kernel_rfl) (fun _ _ _ h => h) (Or.inr ⟨by kernel_rfl, rfl⟩) hHeld ?_
            try simp only [Act.put]
            refine wpAnyG_take (i := 8) (v := undef) rfl (by kernel_rfl) (fun _ _ _ h => h) (Or.inr ⟨by kernel_rfl, rfl⟩) hHeld ?_
            try simp only [Act.put]
            refine wpAnyG_take (i := 9) (v := undef) rfl (by kernel_rfl) (fun _ _ _ h => h) (Or.inr ⟨by kernel_rfl, rfl⟩) hHeld ?_
            try simp only [Act.put]
            refine wpAnyG_take (i := 10) (v := undef) rfl (by kernel_rfl) (fun _ _ _ h => h) (Or.inr ⟨by kernel_rfl, rfl⟩) hHeld ?_
            try simp only [Act.put]
            refine wpAnyG_take (i := 11) (v := ?_) rfl (by kernel_rfl) (fun _ _ _ h => h) (Or.inl ⟨by kernel_rfl, ?_⟩) hHeld ?_
            rotate_left
            · intro w hSw; obtain ⟨d1, d2⟩ := hSw; go_simp; (try (with_reducible rfl))
            try simp only [Act.put]
            refine wpAnyG_take (i := 12) (v := ?_) rfl (by kernel_rfl) (fun _ _ _ h => h) (Or.inl ⟨by kernel_rfl, ?_⟩) hHeld ?_
            rotate_left
            · intro w hSw; obtain ⟨d1, d2⟩ := hSw; go_simp; (try (with_reducible rfl))
            try simp only [Act.put]
            refine wpAnyG_done (by kernel_rfl) ?_ _
            go_simp
            go_wp2_with fail
            go_roundw
            case rel => exact ⟨k + 1, true, by go_num, rfl, by omega, Hm2.out true (by rfl), Hk.out.drew⟩
            case measure => simp [intOf]; omega
          | false =>
            cases hxy : (x == y) with
            | true =>
              go_wp2_with fail
              refine wp_region_free (fun _ => true) (fun w' => w'.cell? ⟨ga, i, none⟩ = some (.string ⟨x.toArray⟩) ∧ w'.cell? ⟨gb, k, none⟩ = some (.string ⟨y.toArray⟩)) (by kernel_rfl) ⟨d1, d2⟩ (fun hHeld => ?_)
              refine wpAnyG_take (i := 0) (v := ?_) rfl (by kernel_rfl) (fun _ _ _ h => h) (Or.inl ⟨by rfl, ?_⟩) hHeld ?_
              rotate_left
              · intro w hSw; obtain ⟨d1, d2⟩ := hSw; go_simp; (try (with_reducible rfl))
              simp only [Act.put, List.setIfInBounds_toArray]
              refine wpAnyG_take (i := 1) (v := ?_) rfl (by kernel_rfl) (fun _ _ _ h => h) (Or.inl ⟨by rfl, ?_⟩) hHeld ?_
              rotate_left
              · intro w hSw; obtain ⟨d1, d2⟩ := hSw; go_simp; (try (with_reducible rfl))
              try simp only [Act.put]
              refine wpAnyG_take (i := 2) (v := ?_) rfl (by kernel_rfl) (fun _ _ _ h => h) (Or.inl ⟨by rfl, ?_⟩) hHeld ?_
              rotate_left
              · intro w hSw; obtain ⟨d1, d2⟩ := hSw; go_simp; (try (with_reducible rfl))
              try simp only [Act.put]
              refine wpAnyG_take (i := 3) (v := ?_) rfl (by kernel_rfl) (fun _ _ _ h => h) (Or.inl ⟨by rfl, ?_⟩) hHeld ?_
              rotate_left
              · intro w hSw; obtain ⟨d1, d2⟩ := hSw; go_simp; (try (with_reducible rfl))
              try simp only [Act.put]
              refine wpAnyG_take (i := 4) (v := ?_) rfl (by kernel_rfl) (fun _ _ _ h => h) (Or.inl ⟨by kernel_rfl, ?_⟩) hHeld ?_
              rotate_left
              · intro w hSw; obtain ⟨d1, d2⟩ := hSw; go_simp; (try (with_reducible rfl))
              try simp only [Act.put]
              refine wpAnyG_take (i := 5) (v := ?_) rfl (by kernel_rfl) (fun _ _ _ h => h) (Or.inl ⟨by kernel_rfl, ?_⟩) hHeld ?_
              rotate_left
              · intro w hSw; obtain ⟨d1, d2⟩ := hSw; go_simp; (try (with_reducible rfl))
              try simp only [Act.put]
              refine wpAnyG_take (i := 6) (v := ?_) rfl (by kernel_rfl) (fun _ _ _ h => h) (Or.inl ⟨by kernel_rfl, ?_⟩) hHeld ?_
              rotate_left
              · intro w hSw; obtain ⟨d1, d2⟩ := hSw; go_simp; (try (with_reducible rfl))
              try simp only [Act.put]
              refine wpAnyG_take (i := 7) (v := ?_) rfl (by kernel_rfl) (fun _ _ _ h => h) (Or.inl ⟨by kernel_rfl, ?_⟩) hHeld ?_
              rotate_left
              · intro w hSw; obtain ⟨d1, d2⟩ := hSw; go_simp; (try (with_reducible rfl))
              try simp only [Act.put]
              refine wpAnyG_take (i := 8) (v := ?_) rfl (by kernel_rfl) (fun _ _ _ h => h) (Or.inl ⟨by kernel_rfl, ?_⟩) hHeld ?_
              rotate_left
              · intro w hSw; obtain ⟨d1, d2⟩ := hSw; go_simp; (try (with_reducible rfl))
              try simp only [Act.put]
              refine wpAnyG_take (i := 9) (v := ?_) rfl (by kernel_rfl) (fun _ _ _ h => h) (Or.inl ⟨by kernel_rfl, ?_⟩) hHeld ?_
              rotate_left
              · intro w hSw; obtain ⟨d1, d2⟩ := hSw; go_simp; (try (with_reducible rfl))
              try simp only [Act.put]
              refine wpAnyG_take (i := 10) (v := ?_) rfl (by kernel_rfl) (fun _ _ _ h => h) (Or.inl ⟨by kernel_rfl, ?_⟩) hHeld ?_
              rotate_left
              · intro w hSw; obtain ⟨d1, d2⟩ := hSw; go_simp; (try (with_reducible rfl))
              try simp only [Act.put]
              refine wpAnyG_take (i := 11) (v := ?_) rfl (by kernel_rfl) (fun _ _ _ h => h) (Or.inl ⟨by kernel_rfl, ?_⟩) hHeld ?_
              rotate_left
              · intro w hSw; obtain ⟨d1, d2⟩ := hSw; go_simp; (try (with_reducible rfl))
              try simp only [Act.put]
              refine wpAnyG_take (i := 12) (v := ?_) rfl (by kernel_rfl) (fun _ _ _ h => h) (Or.inl ⟨by kernel_rfl, ?_⟩) hHeld ?_
              rotate_left
              · intro w hSw; obtain ⟨d1, d2⟩ := hSw; go_simp; (try (with_reducible rfl))
              try simp only [Act.put]
              refine wpAnyG_done (by kernel_rfl) ?_ _
              go_simp
              go_wp2_with fail
              go_roundw
              case rel => exact ⟨k + 1, true, by go_num, rfl, by omega, Hm2.out true (by rw [hxy]; rfl), Hk.out.drew⟩
              case measure => simp [intOf]; omega
            | false =>
              go_wp2_with fail
              refine wp_region_free (fun _ => true) (fun w' => w'.cell? ⟨ga, i, none⟩ = some (.string ⟨x.toArray⟩) ∧ w'.cell? ⟨gb, k, none⟩ = some (.string ⟨y.toArray⟩)) (by kernel_rfl) ⟨d1, d2⟩ (fun hHeld => ?_)
              refine wpAnyG_take (i := 0) (v := ?_) rfl (by kernel_rfl) (fun _ _ _ h => h) (Or.inl ⟨by rfl, ?_⟩) hHeld ?_
              rotate_left
              · intro w hSw; obtain ⟨d1, d2⟩ := hSw; go_simp; (try (with_reducible rfl))
              simp only [Act.put, List.setIfInBounds_toArray]
              refine wpAnyG_take (i := 1) (v := ?_) rfl (by kernel_rfl) (fun _ _ _ h => h) (Or.inl ⟨by rfl, ?_⟩) hHeld ?_
              rotate_left
              · intro w hSw; obtain ⟨d1, d2⟩ := hSw; go_simp; (try (with_reducible rfl))
              try simp only [Act.put]
              refine wpAnyG_take (i := 2) (v := ?_) rfl (by kernel_rfl) (fun _ _ _ h => h) (Or.inl ⟨by rfl, ?_⟩) hHeld ?_
              rotate_left
              · intro w hSw; obtain ⟨d1, d2⟩ := hSw; go_simp; (try (with_reducible rfl))
              try simp only [Act.put]
              refine wpAnyG_take (i := 3) (v := ?_) rfl (by kernel_rfl) (fun _ _ _ h => h) (Or.inl ⟨by rfl, ?_⟩) hHeld ?_
              rotate_left
              · intro w hSw; obtain ⟨d1, d2⟩ := hSw; go_simp; (try (with_reducible rfl))
              try simp only [Act.put]
              refine wpAnyG_take (i := 4) (v := ?_) rfl (by kernel_rfl) (fun _ _ _ h => h) (Or.inl ⟨by kernel_rfl, ?_⟩) hHeld ?_
              rotate_left
              · intro w hSw; obtain ⟨d1, d2⟩ := hSw; go_simp; (try (with_reducible rfl))
              try simp only [Act.put]
              refine wpAnyG_take (i := 5) (v := ?_) rfl (by kernel_rfl) (fun _ _ _ h => h) (Or.inl ⟨by kernel_rfl, ?_⟩) hHeld ?_
              rotate_left
              · intro w hSw; obtain ⟨d1, d2⟩ := hSw; go_simp; (try (with_reducible rfl))
              try simp only [Act.put]
              refine wpAnyG_take (i := 6) (v := ?_) rfl (by kernel_rfl) (fun _ _ _ h => h) (Or.inl ⟨by kernel_rfl, ?_⟩) hHeld ?_
              rotate_left
              · intro w hSw; obtain ⟨d1, d2⟩ := hSw; go_simp; (try (with_reducible rfl))
              try simp only [Act.put]
              refine wpAnyG_take (i := 7) (v := ?_) rfl (by kernel_rfl) (fun _ _ _ h => h) (Or.inl ⟨by kernel_rfl, ?_⟩) hHeld ?_
              rotate_left
              · intro w hSw; obtain ⟨d1, d2⟩ := hSw; go_simp; (try (with_reducible rfl))
              try simp only [Act.put]
              refine wpAnyG_take (i := 8) (v := ?_) rfl (by kernel_rfl) (fun _ _ _ h => h) (Or.inl ⟨by kernel_rfl, ?_⟩) hHeld ?_
              rotate_left
              · intro w hSw; obtain ⟨d1, d2⟩ := hSw; go_simp; (try (with_reducible rfl))
              try simp only [Act.put]
              refine wpAnyG_take (i := 9) (v := ?_) rfl (by kernel_rfl) (fun _ _ _ h => h) (Or.inl ⟨by kernel_rfl, ?_⟩) hHeld ?_
              rotate_left
              · intro w hSw; obtain ⟨d1, d2⟩ := hSw; go_simp; (try (with_reducible rfl))
              try simp only [Act.put]
              refine wpAnyG_take (i := 10) (v := ?_) rfl (by kernel_rfl) (fun _ _ _ h => h) (Or.inl ⟨by kernel_rfl, ?_⟩) hHeld ?_
              rotate_left
              · intro w hSw; obtain ⟨d1, d2⟩ := hSw; go_simp; (try (with_reducible rfl))
              try simp only [Act.put]
              refine wpAnyG_take (i := 11) (v := ?_) rfl (by kernel_rfl) (fun _ _ _ h => h) (Or.inl ⟨by kernel_rfl, ?_⟩) hHeld ?_
              rotate_left
              · intro w hSw; obtain ⟨d1, d2⟩ := hSw; go_simp; (try (with_reducible rfl))
              try simp only [Act.put]
              refine wpAnyG_take (i := 12) (v := ?_) rfl (by kernel_rfl) (fun _ _ _ h => h) (Or.inl ⟨by kernel_rfl, ?_⟩) hHeld ?_
              rotate_left
              · intro w hSw; obtain ⟨d1, d2⟩ := hSw; go_simp; (try (with_reducible rfl))
              try simp only [Act.put]
              refine wpAnyG_done (by kernel_rfl) ?_ _
              go_simp
              go_wp2_with fail
              go_roundw
              case rel => exact ⟨k + 1, false, by go_num, rfl, by omega, Hm2.out false (by rw [hxy]; rfl), Hk.out.drew⟩
              case measure => simp [intOf]; omega
        · obtain rfl : k = B.length := by omega
          obtain rfl : mb = true := by rw [Hm.out, List.take_length]; exact Hxb.out
          have Hck := Lib.hid (Hc.out.trans1 Hk.out)
          go_wp2_with fail
          go_roundw
          case rel => exact ⟨i + 1, by go_num, by omega, Hck⟩
          case measure => simp [intOf]; omega
    · obtain rfl : i = A.length := by omega
      go_wp2
      go_ret
      exact ⟨rfl, Hc.out⟩
end Go.Proofs.YtkgfdgfhpdhhaaaGreat
