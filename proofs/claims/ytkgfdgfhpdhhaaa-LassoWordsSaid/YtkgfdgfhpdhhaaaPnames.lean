/- The names of a formula's propositions, by the program. Conditions: the tree lies in the world, it is not too great. -/
import Derived.Test.YtkgfdgfhpdhhaaaPlain
import Derived.Test.YtkgfdgfhpdhhaaaShelf
namespace Go.Proofs.Ytkgfdgfhpdhhaaa
open Go.ChangeShapes Go.WideShapes Go.RowKit Go.Shelf Go.Sort

attribute [local go_sem] Oper.semAt_some

def strV (x : List UInt8) : Value := .string ⟨x.toArray⟩
/-- The names in a list of parts, as they stand. -/
def pnames (l : List T) : List (List UInt8) := (l.filter (fun t => t.kind == 3)).map T.name
def namesT (t : T) : List (List UInt8) := Lib.compact ((pnames (allT t)).mergeSort fun x y => decide (x ≤ y))

theorem wpListIn_append_known {F : Fence} {n : Nat} {P : Program} {w : World} {ops : Array Oper} {rest : List Oper} {o : Oper} {a : Act} {Q : Exit → Act → World → Prop} (hgd : o.guard = none) (sl x : Operand) (t u : TypeId)
    (ho : o.op = .call { callee := .builtin .append, args := #[sl, x], argTypes := #[t, u] }) (v xv : Value) (hs : a.eval sl = v) (hx : a.eval x = xv) (v' : Value) (w' : World)
    (hr : (Builtin.append_ #[t, u] o.type #[v, xv]).run P w = .ok v' w') (h : wpListIn F n P ops Q rest (a.put o.dst v') w') : wpListIn F n P ops Q (o :: rest) a w := by
  refine wpListIn_plain hgd fun K hK => ?_
  unfold Oper.wpIn
  refine ⟨?_, ?_⟩
  · simp [Oper.about, ho, resolve, Target.leads, Sem.run_pure]
  · rw [Oper.semAt_plain F _ _ (by rw [ho]; intro c hc'; cases hc')]
    simp [execOp, ho, resolve, invoke, builtin, hs, hx, hr, Result.andThen]
    exact hK _ _ h
theorem Try.info9 : (Try.prog.info? 9).map (fun i => (i.zero, i.size, i.bytes)) = some (some (.string ⟨#[]⟩), 1, 16) := by kernel_rfl
theorem info9_parts : ∃ i, Try.prog.info? 9 = some i ∧ i.zero = some (.string ⟨#[]⟩) ∧ i.size = 1 ∧ i.bytes = 16 := by
  have h := Try.info9
  cases hi : Try.prog.info? 9 with
  | none => rw [hi] at h; simp at h
  | some i => rw [hi] at h; simp at h; exact ⟨i, rfl, h.1, h.2.1, h.2.2⟩
/-- A text behind a row of texts. -/
theorem append9 {B : Nat} {w : World} {v : Value} {n : Nat} {xs : List Value} {g c : Nat} {y : ByteArray} (h : w.ownsRow B 9 1 v n xs) (hB : B ≤ w.heap.size) (hn : n ≤ 100000000) (hg : w.heap[g]? = some (.cells #[.string y] c (0, 0))) :
    ∃ g' cap w', (Builtin.append_ #[53, 53] 53 #[v, .slice (some ⟨g, 0, none⟩) 1 1]).run Try.prog w = .ok (.slice (some ⟨g', 0, none⟩) (n + 1) cap) w' ∧ w'.ownsRow B 9 1 (.slice (some ⟨g', 0, none⟩) (n + 1) cap) (n + 1) (xs ++ [.string y]) ∧ w.grownBy w' v.ownBlock ∧ (v.ownBlock = some g' ∨ g' = w.heap.size) ∧ g' < w'.heap.size := by
  obtain ⟨i, hi, hz, hs, hb⟩ := info9_parts
  exact run_append_lies (P := Try.prog) w 53 53 B 9 i _ 1 16 Try.underlying53 hi hz hs hb rfl (by decide) v n _ h ⟨g, 0, none⟩ 1 1 [.string y] rfl
    (fun j u hj => by rw [Go.WideShapes.add_plain, Nat.zero_add]; exact cell_row hg j (by simpa using hj)) (by intro u hu; simp at hu; subst hu; rfl) (by decide) (by unfold maxLen; omega) (by omega) hB _ rfl
/-- A row of texts, as the library's sorts see it. -/
theorem holds_row {W : World} {B g n cap : Nat} {L : List (List UInt8)} (h : W.ownsRow B 9 1 (.slice (some ⟨g, 0, none⟩) n cap) n (L.map strV)) : Holds encStr W g 0 L.toArray := by
  intro j hj
  have hj' : j < L.length := by simpa using hj
  refine ⟨?_, ?_⟩
  · rw [Nat.zero_add]
    have e : L.toArray[j]! = L[j] := by rw [getElem!_pos _ j hj]; simp
    rw [e]
    exact ownsRow_at h (by rw [List.getElem?_map, List.getElem?_eq_getElem hj']; rfl)
  · rw [Nat.zero_add]
    exact ownsRow_frozen h j
theorem holds_chg {W W' : World} {g : Nat} {d : Array (List UInt8)} (h : Holds encStr W g 0 d) (hc : Chg Nob W W') : Holds encStr W' g 0 d := by
  intro j hj
  obtain ⟨h1, h2⟩ := h j hj
  refine ⟨hc.cell' h1 (fun e => e), ?_⟩
  have hb := hc.block g (World.block_lt_of_cell? _ _ h1) (fun e => e)
  unfold World.frozen? at h2 ⊢
  show (match W'.heap[g]? with | _ => _) = false
  rw [hb]
  exact h2
theorem chg_putRow (w : World) (g off : Nat) (d : Array (List UInt8)) : Chg (At1 g) w (putRow encStr w g off d) := by
  refine ⟨rfl, rfl, rfl, by simp, fun k _ hn => ?_⟩
  unfold putRow mapBlock
  rw [Array.getElem?_modify, if_neg (fun e => hn e.symm)]
theorem chg_ahead (w : World) (n : Nat) : Chg Nob w (Sort.ahead w n) := ⟨rfl, rfl, rfl, Nat.le_refl _, fun _ _ _ => rfl⟩
theorem chg_grow (w : World) (os : Array Obj) : Chg Nob w (grow w os) := by
  have := below_regrown w w.drawn os
  exact Chg.of_below this
theorem pnames_snoc (l : List T) (x : T) : pnames (l ++ [x]) = pnames l ++ (if x.kind == 3 then [x.name] else []) := by
  unfold pnames
  rw [List.filter_append, List.map_append]
  congr 1
  cases h : (x.kind == 3) <;> simp [h]
theorem pnames_length (l : List T) : (pnames l).length ≤ l.length := by
  unfold pnames
  rw [List.length_map]
  exact List.length_filter_le _ _
/-- The names so far. -/
def NmRow (B : Nat) (l : List T) (sl : Value) (W : World) : Prop := W.ownsRow B 9 1 sl (pnames l).length ((pnames l).map strV)
def NmI (w : World) (pre : List (T × Value)) (W : World) : Prop := ∃ sl, W.heap[w.heap.size + 1]? = some (.cells #[sl] 53 (0, 0)) ∧ NmRow w.heap.size (pre.map (·.1)) sl W ∧ Chg Nob w W
def NmX (_ : Code) (_ : List (T × Value)) (_ : World) : Prop := False
def NamesPost (t : T) (w : World) (e : Ending) (w' : World) : Prop := Chg Nob w w' ∧ ∃ sl, e = .returned sl ∧ Texts w' sl (namesT t)
theorem nm_steps {w A B : World} {pre : List (T × Value)} {m : Nat} (h : NmI w pre A) (hs : Steps E9 w.heap.size m A B) (hm : w.heap.size + 2 ≤ m) : NmI w pre B := by
  obtain ⟨sl, h1, h2, h3⟩ := h
  refine ⟨sl, Chg.at hs h1 (fun e => by have := e.1; omega), ?_, chg_steps h3 hs (by omega)⟩
  refine ownsRow_chg h2 hs (fun k hk e => ?_)
  obtain ⟨cs, m', hb⟩ := ownsRow_block h2 k hk
  exact e.2 ⟨_, hb, (h2.lt k hk).1, _, _, _, rfl, rfl⟩

set_option maxRecDepth 100000 in
set_option maxHeartbeats 4000000 in
theorem names_any (R : Nat → Prop) (t : T) (v : Value) (w : World) (ht : IsTree R w t v) (hN : sizeT t ≤ 1000000) (hR : ∀ b, R b → b < w.heap.size) :
    Calls Try.prog 55 #[v] w (NamesPost t w) := by
  obtain ⟨a, b, c, hv⟩ := ht.agg
  have Ht := Lib.hid ht
  clear ht
  subst hv
  refine (callsIn_wide (n := 5)).1 (callsIn_of_wp_marks Try.func55 rfl trivial ?_ rfl)
  simp only [Try.ntmps55, List.size_toArray, List.length_cons, List.length_nil, Nat.reduceAdd, Nat.reduceSub, Array.replicate_succ, Array.replicate_zero, List.push_toArray, List.append_toArray, List.nil_append, List.cons_append]
  gi_wp2
  refine ⟨trivial, (callsIn_wide.2 (parts_any (.agg #[a, b, c]) a b c rfl _)).mono ?_⟩
  rintro e w1 ⟨rfl, rfl⟩
  gi_wp2
  have hw2 : Chg Nob w ((w.alloc (.cells #[a, b, c] 37)).alloc (.cells #[.slice none 0 0] 53)) := ((Chg.refl _ _).alloc _).alloc _
  have hs2 : ((w.alloc (.cells #[a, b, c] 37)).alloc (.cells #[.slice none 0 0] 53)).heap.size = w.heap.size + 1 + 1 := by simp
  have hit := parts_of (n := 4) (by omega) (V0 := fun k => k = w.heap.size + 1) (rfl : Value.agg #[a, b, c] = _) Ht.out hN hR hw2 hs2 (by rintro k rfl; omega)
  have hcnt := heap_alloc_new (w.alloc (.cells #[a, b, c] 37)) (.cells #[.slice none 0 0] 53)
  rw [World.size_alloc] at hcnt
  have hcnt3 := ((Chg.refl Nob _).alloc (.cells #[a, b, c] 37)).at hcnt (fun e => e)
  have hw3 : Chg Nob w (((w.alloc (.cells #[a, b, c] 37)).alloc (.cells #[.slice none 0 0] 53)).alloc (.cells #[a, b, c] 37)) := hw2.alloc _
  have hs3 : (((w.alloc (.cells #[a, b, c] 37)).alloc (.cells #[.slice none 0 0] 53)).alloc (.cells #[a, b, c] 37)).heap.size = w.heap.size + 3 := by simp
  have htr := preT_tree t (.agg #[a, b, c]) (Ht.out.nob hw3)
  have hall := preT_all (((w.alloc (.cells #[a, b, c] 37)).alloc (.cells #[.slice none 0 0] 53)).alloc (.cells #[a, b, c] 37)) t (.agg #[a, b, c])
  clear hcnt
  generalize (((w.alloc (.cells #[a, b, c] 37)).alloc (.cells #[.slice none 0 0] 53)).alloc (.cells #[a, b, c] 37)) = W3 at *
  have Htr := Lib.hid htr
  have Hall := Lib.hid hall
  clear htr hall
  have hI0 : NmI w [] W3 := ⟨_, hcnt3, ⟨rfl, .inl ⟨rfl, rfl⟩⟩, hw3⟩
  refine range_iter (E := E9) (n0 := w.heap.size) (gf := 97) (by omega) rfl (enters_of Try.func97 (by kernel_rfl) rfl) hit (by rintro k rfl; omega) (fun _ => rfl)
    (NmI w) NmX ?_ ?_ hI0 ?_ ?_ ?_
  · intro pre A B h hs
    exact nm_steps h hs (by omega)
  · intro c pre A B h hs
    exact h.elim
  · rintro l pre ⟨x, xv⟩ W hI hpre hsz
    have hxm : (x, xv) ∈ preT W3 t (.agg #[a, b, c]) := hpre.subset (by simp)
    have htx : IsTree R W3 x xv := Htr.out _ hxm
    have hpl : pre.length ≤ 1000000 := by
      have h1 := hpre.length_le
      rw [pre_length, List.length_append] at h1
      omega
    obtain ⟨ao, cap, rfl, hxl, _⟩ := htx.parts
    clear htx hxm
    simp only [zip1, List.setIfInBounds_toArray, List.set_cons_succ, List.set_cons_zero]
    gi_wp2
    refine ⟨Keeps.of_chg ((Chg.refl _ _).alloc _), fun w₂ hc2 hst2 => ?_⟩
    have hI1 : NmI w pre (W.alloc (.cells #[.int .i64 x.kind, .string ⟨x.name.toArray⟩, .slice ao x.kids.length cap] 37)) := nm_steps hI (Steps.nob ((Chg.refl _ _).alloc _) : Steps E9 w.heap.size (W3.heap.size + 1) W _) (by omega)
    have hI2 : NmI w pre w₂ := nm_steps hI1 hst2 (by omega)
    obtain ⟨sl, hl1, hl2, hl3⟩ := hI2
    have hbx := Chg.at hc2 (heap_alloc_new W _) (fun e => by have e : W.heap.size = W3.heap.size + 1 := e; omega)
    obtain ⟨c0, c1, c2, _⟩ := cells_three hbx
    have r0 := cell_row hl1 0 (v := sl) rfl
    have r1 : w₂.frozen? ⟨w.heap.size + 1, 0, none⟩ = false := by simp [World.frozen?, hl1]
    have hmap : (pre ++ [(x, Value.agg #[.int .i64 x.kind, .string ⟨x.name.toArray⟩, .slice ao x.kids.length cap])]).map (·.1) = pre.map (·.1) ++ [x] := by simp
    have hsn := pnames_snoc (pre.map (·.1)) x
    clear hI hI1 hc2 hst2 hit hpre hbx hw2 hs2 hcnt3 hw3 hI0
    cases h3 : (x.kind == 3) with
    | false =>
      have Hfin : Hid (Keeps E9 w.heap.size (fun k => k = w.heap.size + 1) w₂ w₂ ∧ NmI w (pre ++ [(x, Value.agg #[.int .i64 x.kind, .string ⟨x.name.toArray⟩, .slice ao x.kids.length cap])]) w₂) := by
        refine ⟨Keeps.of_chg (Chg.refl _ _), sl, hl1, ?_, hl3⟩
        unfold NmRow
        rw [hmap, hsn, h3]
        unfold NmRow at hl2
        simpa using hl2
      clear hsn hmap hl1 hl2 hl3
      gi_wp2
      exact Hfin.out
    | true =>
      have hpn : (pnames (pre.map (·.1))).length ≤ 1000000 := by have := pnames_length (pre.map (·.1)); rw [List.length_map] at this; omega
      have hA : Chg Nob w₂ (w₂.alloc (.cells #[.string ⟨x.name.toArray⟩] 9)) := (Chg.refl _ _).alloc _
      obtain ⟨g', cap', w6, hrun, hrow6, hgr, hlies, hg6⟩ := append9 (ownsRow_chg hl2 hA (fun _ _ e => e)) (by rw [World.size_alloc]; have := hl3.size; omega) (by omega) (heap_alloc_new w₂ (.cells #[.string ⟨x.name.toArray⟩] 9))
      have hown : ∀ k, sl.ownBlock = some k → w.heap.size ≤ k ∧ k < w₂.heap.size := fun k hk => hl2.lt k hk
      have hc26 : Chg (fun k => sl.ownBlock = some k) w₂ w6 := (hA.any (S := fun k => sl.ownBlock = some k)).trans1 ((Chg.refl _ _).grown hgr (fun q hq _ => hq))
      have hne : sl.ownBlock ≠ some (w.heap.size + 1) := fun e => by
        obtain ⟨cs, m', hb⟩ := ownsRow_block hl2 _ e
        rw [hl1] at hb; simp at hb
      have hl6 := hc26.at hl1 hne
      have hset : Chg (At1 (w.heap.size + 1)) w6 (w6.setCell ⟨w.heap.size + 1, 0, none⟩ (.slice (some ⟨g', 0, none⟩) ((pnames (pre.map (·.1))).length + 1) cap')) := (Chg.refl (At1 (w.heap.size + 1)) _).setCell (p := ⟨w.heap.size + 1, 0, none⟩) (fun _ => rfl) _
      have hg'lo := hrow6.lt g' rfl
      have hg'ne : g' ≠ w.heap.size + 1 := fun e => by
        rcases hlies with h | h
        · exact hne (by rw [h, e])
        · rw [World.size_alloc] at h; have := (Array.getElem?_eq_some_iff.1 hl1).1; omega
      have Hfin : Hid (Keeps E9 w.heap.size (fun k => k = w.heap.size + 1) w₂ (w6.setCell ⟨w.heap.size + 1, 0, none⟩ (.slice (some ⟨g', 0, none⟩) ((pnames (pre.map (·.1))).length + 1) cap')) ∧
          NmI w (pre ++ [(x, Value.agg #[.int .i64 x.kind, .string ⟨x.name.toArray⟩, .slice ao x.kids.length cap])]) (w6.setCell ⟨w.heap.size + 1, 0, none⟩ (.slice (some ⟨g', 0, none⟩) ((pnames (pre.map (·.1))).length + 1) cap'))) := by
        refine ⟨⟨Nat.le_trans hc26.size hset.size, fun k o ho hv hs => ?_⟩, _, block_one_set hl6, ?_, ?_⟩
        · refine hset.at (hc26.at ho (fun e => ?_)) hv
          obtain ⟨cs, m', hb⟩ := ownsRow_block hl2 k e
          rw [hb] at ho
          cases ho
          exact hs ⟨(hown k e).1, _, _, _, rfl, rfl⟩
        · unfold NmRow
          rw [hmap, hsn, h3, if_pos rfl, List.length_append, List.map_append]
          refine ownsRow_chg hrow6 hset (fun k hk e => ?_)
          have hk : g' = k := by simpa [Value.ownBlock] using hk
          have e : k = w.heap.size + 1 := e
          omega
        · refine ((hl3.any (S := fun k => sl.ownBlock = some k)).trans1 hc26 |>.mono (S' := Nob) (fun i hi e => by have := (hown i e).1; omega)).trans hset (fun i hi e => by have e : i = w.heap.size + 1 := e; omega)
      obtain ⟨y0, y1⟩ : w6.cell? ⟨w.heap.size + 1, 0, none⟩ = some sl ∧ w6.frozen? ⟨w.heap.size + 1, 0, none⟩ = false := ⟨cell_row hl6 0 rfl, by simp [World.frozen?, hl6]⟩
      have Hrun := Lib.hid hrun
      clear hsn hmap hl1 hl2 hl3 hrun hrow6 hgr hlies hown hc26 hset hA hl6 hg'lo hg'ne
      gi_wp2_with (refine wpListIn_append_known rfl _ _ 53 53 rfl _ _ rfl rfl _ w6 Hrun.out ?_)
      exact Hfin.out
  · rintro W ⟨sl, h1, h2, h3⟩ hd
    rw [Hall.out] at h2
    have hL : (pnames (allT t)).length ≤ 1000000 := by have := pnames_length (allT t); rw [allT_length] at this; omega
    obtain ⟨L, hLe⟩ : ∃ L, L = pnames (allT t) := ⟨_, rfl⟩
    have hNm : namesT t = Lib.compact (L.mergeSort fun x y => decide (x ≤ y)) := by rw [hLe]; rfl
    unfold NmRow at h2
    rw [← hLe] at h2 hL
    have HNm := Lib.hid hNm
    have HS3 := Lib.hid hs3
    clear hLe hNm hit hw2 hs2 hcnt3 hI0 hs3
    have r0 := cell_row h1 0 (v := sl) rfl
    rcases Nat.eq_zero_or_pos L.length with h0 | hpos
    · obtain rfl : L = [] := List.length_eq_zero_iff.1 h0
      obtain ⟨ao, cp, rfl⟩ := ownsRow_shape h2
      have Hd := Lib.hid hd
      have H3 := Lib.hid h3
      clear h0 h1 h2 h3 hd
      gi_wp2_with fail
      refine ⟨trivial, (callsIn_wide.2 (Try.slices_Sort_string_none ao cp W)).mono ?_⟩
      rintro e w6 ⟨rfl, rfl⟩
      gi_wp2_with fail
      refine ⟨trivial, (callsIn_wide.2 (Try.slices_Compact_string_empty ao cp _)).mono ?_⟩
      rintro e w7 ⟨rfl, rfl⟩
      gi_wp2
      refine leaves_one Hd.out (fun W' hc' => ⟨_, results_tmp rfl _ _ _, H3.out.trans hc' (fun i hi e => by have e : i = W3.heap.size := e; have := HS3.out; omega), _, rfl, ?_⟩)
      have hnil : namesT t = [] := by rw [HNm.out]; simp [Lib.compact, Lib.compactUpTo]
      rw [hnil]
      exact ⟨ao, cp, rfl, by simp, fun j x hx => by simp at hx⟩
    · obtain ⟨g, cap, rfl, _⟩ := ownsRow_some h2 hpos
      have hcap := ownsRow_cap h2
      have hg := h2.lt g rfl
      have hgne : g ≠ w.heap.size + 1 := fun e => by
        obtain ⟨cs, m', hb⟩ := ownsRow_block h2 g rfl
        rw [e, h1] at hb; simp at hb
      have hgd : g ≠ W3.heap.size := fun e => by
        obtain ⟨cs, m', hb⟩ := ownsRow_block h2 g rfl
        rw [e, hd] at hb; simp at hb
      have hH := holds_row h2
      have hsort := Try.slices_Sort_string g 0 cap L W hH hg.2 (by omega)
      have hml : (L.mergeSort fun x y => decide (x ≤ y)).length = L.length := List.length_mergeSort _
      have hcl := Lib.compact_length_le (L.mergeSort fun x y => decide (x ≤ y))
      have Hd := Lib.hid hd
      have H3 := Lib.hid h3
      have H1 := Lib.hid h1
      have HH := Lib.hid hH
      clear h1 h2 h3 hd hH
      gi_wp2_with fail
      refine ⟨trivial, (callsIn_wide.2 hsort).mono ?_⟩
      rintro e w6 ⟨rfl, q, os, hw6⟩
      have hc6 : Chg (At1 g) W w6 := by
        rw [hw6]
        exact ((chg_ahead W q).any.trans1 (chg_putRow _ g 0 _)).trans1 (chg_grow _ os).any
      have hH6 : Holds encStr w6 g 0 (L.mergeSort fun x y => decide (x ≤ y)).toArray := by
        rw [hw6]
        exact holds_chg (holds_putRow _ _ _ _ _ _ (holds_ahead _ _ _ _ _ _ HH.out) (by simp [hml])) (chg_grow _ os)
      have hl6 := hc6.at H1.out (fun e => hgne e.symm)
      have hd6 := hc6.at Hd.out (fun e => hgd e.symm)
      have y0 := cell_row hl6 0 (v := .slice (some ⟨g, 0, none⟩) L.length cap) rfl
      obtain ⟨Z, hZ⟩ : ∃ Z, Z = L.mergeSort fun x y => decide (x ≤ y) := ⟨_, rfl⟩
      rw [← hZ] at hH6 hml hcl HNm
      have hcomp := Try.slices_Compact_string g 0 cap Z w6 hH6 (by omega) (by omega)
      rw [hml] at hcomp
      have Hml := Lib.hid hml
      have Hcl := Lib.hid hcl
      clear hw6 hsort hZ hl6 hml
      gi_wp2_with fail
      refine ⟨trivial, (callsIn_wide.2 hcomp).mono ?_⟩
      rintro e w7 ⟨rfl, q7, hw7⟩
      have hc7 : Chg (At1 g) w6 w7 := by
        rw [hw7]
        exact (chg_ahead w6 q7).any.trans1 (chg_putRow _ g 0 _)
      have Hd7 := Lib.hid (hc7.at hd6 (fun e => hgd e.symm))
      have Ht : Hid (∀ j x, (Lib.compact Z)[j]? = some x → w7.cell? ⟨g, 0 + j, none⟩ = some (.string ⟨x.toArray⟩)) := fun j x hx => by
        rw [hw7]
        have hjl := (List.getElem?_eq_some_iff.1 hx).1
        have hsz : (Lib.compact Z ++ List.replicate (L.length - (Lib.compact Z).length) []).toArray.size = Z.toArray.size := by
          have := Hml.out
          simp; omega
        have := cell?_putRow encStr (Sort.ahead w6 q7) g 0 Z.toArray (Lib.compact Z ++ List.replicate (L.length - (Lib.compact Z).length) []).toArray (holds_ahead _ _ _ _ _ _ hH6) hsz j (by simp; omega)
        rw [this]
        congr 1
        rw [getElem!_pos _ j (by simp; omega)]
        have e2 : (Lib.compact Z ++ List.replicate (L.length - (Lib.compact Z).length) [])[j]? = some x := by rw [List.getElem?_append_left hjl]; exact hx
        obtain ⟨_, e3⟩ := List.getElem?_eq_some_iff.1 e2
        simp only [List.getElem_toArray]
        rw [e3]
      have Hc7 : Hid (Chg Nob w w7) := (H3.out.any (S := At1 g)).trans1 (hc6.trans1 hc7) |>.mono (fun i hi e => by have e : i = g := e; omega)
      clear hw7 hcomp hc6 hc7 hd6 hH6
      gi_wp2
      refine leaves_one Hd7.out (fun W' hc' => ⟨_, results_tmp rfl _ _ _, Hc7.out.trans hc' (fun i hi e => by have e : i = W3.heap.size := e; have := HS3.out; omega), _, rfl, ?_⟩)
      rw [HNm.out]
      refine ⟨some ⟨g, 0, none⟩, cap, rfl, by have := Hcl.out; have := Hml.out; omega, fun j x hx => ⟨g, 0, rfl, hc'.cell' (Ht.out j x hx) (fun e => hgd e)⟩⟩
  · intro c pre W hpre h hd
    exact h.elim
end Go.Proofs.Ytkgfdgfhpdhhaaa
