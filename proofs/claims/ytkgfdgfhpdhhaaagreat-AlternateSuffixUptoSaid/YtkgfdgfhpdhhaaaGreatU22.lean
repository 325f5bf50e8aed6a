/- Parts of the walks and of the plain theory: The maker of automata in the world: its block, its states, its map. Conditions: as each theorem states. -/
import Derived.Test.YtkgfdgfhpdhhaaaGreatU20
import Derived.Test.YtkgfdgfhpdhhaaaGreatU21
import Derived.Maps.OwnSet
import Derived.Maps.OwnOps
namespace Go.Proofs.YtkgfdgfhpdhhaaaGreat
open Go.ChangeShapes Go.WideShapes Go.RowKit Go.Maps Go.WideMaps
attribute [local go_sem] Oper.semAt_some
abbrev StR := Sti × Value × List MvS
def cellsR (x : StR) : List Value := [.bool x.1.fin, x.2.1]
structure MkS where
  sts : List Sti
  num : List (List UInt8 × Nat)
def NumIs (dm : DataW Unit) (num : List (List UInt8 × Nat)) : Prop :=
  IsMap dm ∧ ∀ k : List UInt8, has dm (.string k) = (num.lookup k).isSome ∧ ∀ n, num.lookup k = some n → dm.atKey (.string k) (.lit (.int .i64 0)) = .lit (.int .i64 (n : Int))
structure MkIs (W : World) (D : Nat → Prop) (mb : Nat) (nv : Value) (s : MkS) (mv : Int) : Prop where
  lt : ∀ k, D k → k < W.heap.size
  ty : ∀ k, D k → ∀ cs m, W.heap[k]? ≠ some (.cells cs 3 m)
  few : s.num.length ≤ s.sts.length ∧ s.sts.length ≤ 5000
  cells : ∃ sv pb lo, ∃ xs : List StR, ∃ dm : DataW Unit, W.heap[mb]? = some (.cells #[nv, sv, .map (some pb), .int .i64 mv] 62 (0, 0)) ∧ D mb ∧ D pb ∧
    W.ownsMap Tryz.prog 9 (plainElem Tryz.prog 3) pb s.num.length dm ∧ NumIs dm s.num ∧
    W.ownsRow lo 69 2 sv s.sts.length (xs.flatMap cellsR) ∧ xs.map (·.1) = s.sts ∧ (∀ q, sv.ownBlock = some q → D q) ∧
    ∀ x ∈ xs, (∃ l, MOwn W l x.2.1 x.1.moves x.2.2) ∧ (∀ q, x.2.1.ownBlock = some q → D q) ∧ x.1.moves.length ≤ 10000
theorem ownsRow_zero {W : World} {lo : Nat} {e : TypeId} {z : Nat} {v : Value} {n : Nat} {xs : List Value} (h : W.ownsRow lo e z v n xs) : W.ownsRow 0 e z v n xs :=
  ⟨h.1, h.2.imp id (fun ⟨g, cap, cur, e, _, rest⟩ => ⟨g, cap, cur, e, Nat.zero_le _, rest⟩)⟩
theorem ownsMap_chg {S : Nat → Prop} {W W' : World} {k b n : Nat} {R : Value → Option (DataW Unit × List MemPlace)} {dm : DataW Unit} (h : W.ownsMap Tryz.prog k R b n dm) (hc : Chg S W W') (hn : ¬ S b) : W'.ownsMap Tryz.prog k R b n dm := by
  obtain ⟨es, clock, hb, F, hs, hD⟩ := h
  exact ⟨es, clock, hc.at hb hn, F, hs, hD⟩
theorem MkIs.keep {S D : Nat → Prop} {W W' : World} {mb : Nat} {nv : Value} {s : MkS} {mv : Int} (h : MkIs W D mb nv s mv) (hc : Chg S W W') (hd : ∀ q, S q → ¬ D q) (hs : ∀ q, S q → ∀ cs m, W.heap[q]? ≠ some (.cells cs 3 m)) : MkIs W' D mb nv s mv := by
  obtain ⟨h1, h2, h3, sv, pb, lo, xs, dm, hb, dmb, dpb, hm, hnum, hrow, hfst, hown, hx⟩ := h
  have hD : ∀ q, D q → ¬ S q := fun q hq hs => hd q hs hq
  refine ⟨fun k hk => Nat.lt_of_lt_of_le (h1 k hk) hc.size, fun k hk cs m e => h2 k hk cs m (by rw [← hc.block k (h1 k hk) (hD k hk)]; exact e), h3, sv, pb, lo, xs, dm, hc.at hb (hD _ dmb), dmb, dpb, ownsMap_chg hm hc (hD _ dpb), hnum, ownsRow_chg hrow hc (fun q hq => hD q (hown q hq)), hfst, hown, fun x hxm => ?_⟩
  obtain ⟨⟨l, ho⟩, hb, hl⟩ := hx x hxm
  exact ⟨⟨l, ho.typed hc (fun q hq => hD q (hb q hq)) hs⟩, hb, hl⟩
theorem MkIs.nob {D : Nat → Prop} {W W' : World} {mb : Nat} {nv : Value} {s : MkS} {mv : Int} (h : MkIs W D mb nv s mv) (hc : Chg Nob W W') : MkIs W' D mb nv s mv := h.keep hc (fun _ e => e.elim) (fun _ e => e.elim)
theorem MkIs.moves {D : Nat → Prop} {W : World} {mb : Nat} {nv : Value} {s : MkS} {mv : Int} (h : MkIs W D mb nv s mv) (mv' : Int) : MkIs (W.setCell ⟨mb, 3, none⟩ (.int .i64 mv')) D mb nv s mv' := by
  have hlt := h.lt
  obtain ⟨h1, h2, h3, sv, pb, lo, xs, dm, hb, dmb, dpb, hm, hnum, hrow, hfst, hown, hx⟩ := h
  have hc : Chg (At1 mb) W (W.setCell ⟨mb, 3, none⟩ (.int .i64 mv')) := (Chg.refl (At1 mb) W).setCell (p := ⟨mb, 3, none⟩) (fun _ => rfl) _
  have hne : ∀ q, (∃ cs t m, W.heap[q]? = some (.cells cs t m) ∧ t ≠ 62) ∨ (∃ es c, W.heap[q]? = some (.map es c)) → ¬ At1 mb q := by
    intro q h e
    have e : q = mb := e
    subst e
    rcases h with ⟨cs, t, m, h, ht⟩ | ⟨es, c, h⟩
    · rw [hb] at h; simp at h; exact ht h.2.1.symm
    · rw [hb] at h; simp at h
  have h62 : ∀ q, At1 mb q → ∀ cs m, W.heap[q]? ≠ some (.cells cs 3 m) := by
    intro q e cs m h
    have e : q = mb := e
    subst e
    rw [hb] at h; simp at h
  refine ⟨fun k hk => Nat.lt_of_lt_of_le (h1 k hk) hc.size, fun k hk cs m e => ?_, h3, sv, pb, lo, xs, dm, ?_, dmb, dpb, ownsMap_chg hm hc ?_, hnum, ownsRow_chg hrow hc ?_, hfst, hown, fun x hxm => ?_⟩
  · by_cases hk2 : k = mb
    · subst hk2
      have : (W.setCell ⟨k, 3, none⟩ (.int .i64 mv')).heap[k]? = some (.cells #[nv, sv, .map (some pb), .int .i64 mv'] 62 (0, 0)) := by
        simp [World.setCell, Array.getElem?_modify, hb]
      rw [this] at e; simp at e
    · exact h2 k hk cs m (by rw [← hc.block k (h1 k hk) hk2]; exact e)
  · simp [World.setCell, Array.getElem?_modify, hb]
  · obtain ⟨es, clock, hb, _⟩ := hm
    exact hne _ (.inr ⟨es, clock, hb⟩)
  · intro q hq
    obtain ⟨cs, m, hb⟩ := ownsRow_block hrow q hq
    exact hne _ (.inl ⟨cs, 69, m, hb, by decide⟩)
  · obtain ⟨⟨l, ho⟩, hbx, hl⟩ := hx x hxm
    refine ⟨⟨l, ho.typed hc (fun q hq => ?_) h62⟩, hbx, hl⟩
    obtain ⟨cs, m, hb⟩ := ownsRow_block ho.own q hq
    exact hne _ (.inl ⟨cs, 75, m, hb, by decide⟩)
theorem Tryz.info69m : (Tryz.prog.info? 69).map (fun i => (i.zero, i.size, i.bytes)) = some (some (.agg #[.bool false, .slice none 0 0]), 2, 32) := by kernel_rfl
theorem info69_parts : ∃ i, Tryz.prog.info? 69 = some i ∧ i.zero = some (.agg #[.bool false, .slice none 0 0]) ∧ i.size = 2 ∧ i.bytes = 32 := by
  have h := Tryz.info69m
  cases hi : Tryz.prog.info? 69 with
  | none => rw [hi] at h; simp at h
  | some i => rw [hi] at h; simp at h; exact ⟨i, rfl, h.1, h.2.1, h.2.2⟩
theorem append69 {B : Nat} {w : World} {v : Value} {n : Nat} {xs : List Value} {x y : Value} {g : Nat} {c : Nat} (h : w.ownsRow B 69 2 v n xs) (hB : B ≤ w.heap.size) (hn : n ≤ 100000000) (hx : x.oneCell' = true) (hy : y.oneCell' = true) (hg : w.heap[g]? = some (.cells #[x, y] c (0, 0))) :
    ∃ g' cap w', (Builtin.append_ #[36, 36] 36 #[v, .slice (some ⟨g, 0, none⟩) 1 1]).run Tryz.prog w = .ok (.slice (some ⟨g', 0, none⟩) (n + 1) cap) w' ∧ w'.ownsRow B 69 2 (.slice (some ⟨g', 0, none⟩) (n + 1) cap) (n + 1) (xs ++ [x, y]) ∧ w.grownBy w' v.ownBlock ∧ (v.ownBlock = some g' ∨ g' = w.heap.size) ∧ g' < w'.heap.size := by
  obtain ⟨i, hi, hz, hs, hb⟩ := info69_parts
  exact run_append_lies (P := Tryz.prog) w 36 36 B 69 i _ 2 32 Tryz.underlying36 hi hz hs hb rfl (by decide) v n _ h ⟨g, 0, none⟩ 1 1 [x, y] rfl
    (fun j u hj => by rw [Go.WideShapes.add_plain, Nat.zero_add]; exact cell_row hg j (by simpa using hj)) (by intro u hu; simp at hu; rcases hu with rfl | rfl <;> assumption) (by decide) (by unfold maxLen; omega) (by omega) hB _ rfl
theorem MkIs.push {D : Nat → Prop} {W : World} {mb : Nat} {nv : Value} {s : MkS} {mv : Int} (h : MkIs W D mb nv s mv) (hlen : s.sts.length ≤ 4999) {lo : Nat} {v : Value} {ms : List Mvi} {ys : List MvS} (hv : MOwn W lo v ms ys) (hml : ms.length ≤ 10000) (fin : Bool) :
    ∃ ao c, W.cell? ⟨mb, 1, none⟩ = some (.slice ao s.sts.length c) ∧ ∃ sl' W1, (Builtin.append_ #[36, 36] 36 #[.slice ao s.sts.length c, .slice (some ⟨W.heap.size, 0, none⟩) 1 1]).run Tryz.prog (W.alloc (.cells #[.bool fin, v] 69)) = .ok sl' W1 ∧
      (∃ g c', sl' = .slice (some ⟨g, 0, none⟩) (s.sts.length + 1) c') ∧ W1.cell? ⟨mb, 1, none⟩ = some (.slice ao s.sts.length c) ∧ W1.frozen? ⟨mb, 1, none⟩ = false ∧ Chg D W W1 ∧ Chg D W (W1.setCell ⟨mb, 1, none⟩ sl') ∧ ∃ D', MkIs (W1.setCell ⟨mb, 1, none⟩ sl') D' mb nv ⟨s.sts ++ [⟨fin, ms⟩], s.num⟩ mv ∧ ∀ q, D' q → D q ∨ W.heap.size ≤ q ∨ v.ownBlock = some q := by
  obtain ⟨h1, h2, h3, sv, pb, lo2, xs, dm, hb, dmb, dpb, hm, hnum, hrow, hfst, hown, hx⟩ := h
  obtain ⟨ao, c, rfl⟩ := ownsRow_shape hrow
  have hA : Chg Nob W (W.alloc (.cells #[.bool fin, v] 69)) := (Chg.refl _ _).alloc _
  have hv1 : v.oneCell' = true := by obtain ⟨a, b, rfl⟩ := ownsRow_shape hv.own; rfl
  obtain ⟨g', cap, W1, hrun, hrow1, hgr, hlies, hg'⟩ := append69 (x := .bool fin) (y := v) (ownsRow_chg (ownsRow_zero hrow) hA (fun _ _ e => e)) (Nat.zero_le _) (by omega) rfl hv1 (heap_alloc_new W (.cells #[.bool fin, v] 69))
  rw [World.size_alloc] at hlies
  have hc : Chg (fun q => (Value.slice ao s.sts.length c).ownBlock = some q) W W1 := (hA.any (S := fun q => (Value.slice ao s.sts.length c).ownBlock = some q)).trans1 ((Chg.refl _ _).grown hgr (fun q hq _ => hq))
  -- blocks by their kinds
  have hk69 : ∀ q, (Value.slice ao s.sts.length c).ownBlock = some q → ∃ cs m, W.heap[q]? = some (.cells cs 69 m) := ownsRow_block hrow
  have hb1 : W1.heap[mb]? = some (.cells #[nv, .slice ao s.sts.length c, .map (some pb), .int .i64 mv] 62 (0, 0)) := hc.at hb (fun e => by obtain ⟨cs, m, e2⟩ := hk69 mb e; rw [hb] at e2; simp at e2)
  have hb2 : ∀ u, (W1.setCell ⟨mb, 1, none⟩ u).heap[mb]? = some (.cells #[nv, u, .map (some pb), .int .i64 mv] 62 (0, 0)) := fun u => by simp [World.setCell, Array.getElem?_modify, hb1]
  have hcV : ∀ u, Chg (fun q => q = mb ∨ (Value.slice ao s.sts.length c).ownBlock = some q) W (W1.setCell ⟨mb, 1, none⟩ u) := fun u => (hc.mono (fun _ _ e => .inr e)).setCell (fun _ => .inl rfl) u
  obtain ⟨sl', hsl⟩ : ∃ sl', sl' = Value.slice (some ⟨g', 0, none⟩) (s.sts.length + 1) cap := ⟨_, rfl⟩
  rw [← hsl] at hrun hrow1
  have hob : sl'.ownBlock = some g' := by rw [hsl]; rfl
  obtain ⟨V, hV⟩ : ∃ V, V = W1.setCell ⟨mb, 1, none⟩ sl' := ⟨_, rfl⟩
  have hcV := hcV sl'
  have hb2 := hb2 sl'
  rw [← hV] at hcV hb2
  have hne : ∀ q, (∃ cs t m, W.heap[q]? = some (.cells cs t m) ∧ t ≠ 62 ∧ t ≠ 69) ∨ (∃ es c, W.heap[q]? = some (.map es c)) → ¬ (q = mb ∨ (Value.slice ao s.sts.length c).ownBlock = some q) := by
    intro q h e
    rcases e with rfl | e
    · rcases h with ⟨cs, t, m, h, ht, _⟩ | ⟨es, c, h⟩
      · rw [hb] at h; simp at h; exact ht h.2.1.symm
      · rw [hb] at h; simp at h
    · obtain ⟨cs', m', e⟩ := hk69 q e
      rcases h with ⟨cs, t, m, h, _, ht⟩ | ⟨es, c, h⟩
      · rw [e] at h; simp at h; exact ht h.2.1.symm
      · rw [e] at h; simp at h
  have h3t : ∀ q, (q = mb ∨ (Value.slice ao s.sts.length c).ownBlock = some q) → ∀ cs m, W.heap[q]? ≠ some (.cells cs 3 m) := fun q e cs m h => hne q (.inl ⟨cs, 3, m, h, by decide, by decide⟩) e
  have hrowV : V.ownsRow 0 69 2 sl' (s.sts.length + 1) (xs.flatMap cellsR ++ [.bool fin, v]) := by
    rw [hV]
    refine ownsRow_chg hrow1 ((Chg.refl (At1 mb) _).setCell (p := ⟨mb, 1, none⟩) (fun _ => rfl) _) (fun q hq e => ?_)
    have e : q = mb := e
    subst e
    obtain ⟨cs, m, e⟩ := ownsRow_block hrow1 q hq
    rw [hb1] at e; simp at e
  refine ⟨ao, c, (cell_row hb 1 rfl), sl', W1, hrun, ⟨g', cap, hsl⟩, cell_row hb1 1 rfl, by simp [World.frozen?, hb1], hc.mono (fun q _ e => hown q e), ?_, ?_⟩
  · rw [← hV]
    exact hcV.mono (fun q _ e => e.elim (fun e => e ▸ dmb) (fun e => hown q e))
  · rw [← hV]
    have hvo : ∀ q, v.ownBlock = some q → ∃ cs m, W.heap[q]? = some (.cells cs 75 m) := ownsRow_block hv.own
    have hnsv : ∀ q, (∃ cs t m, W.heap[q]? = some (.cells cs t m) ∧ t ≠ 69) ∨ (∃ es c, W.heap[q]? = some (.map es c)) → ¬ (Value.slice ao s.sts.length c).ownBlock = some q := by
      intro q h e
      obtain ⟨cs', m', e⟩ := hk69 q e
      rcases h with ⟨cs, t, m, h, ht⟩ | ⟨es, c, h⟩
      · rw [e] at h; simp at h; exact ht h.2.1.symm
      · rw [e] at h; simp at h
    have hpbm : ∃ es c, W.heap[pb]? = some (.map es c) := by obtain ⟨es, clock, hb, _⟩ := hm; exact ⟨es, clock, hb⟩
    refine ⟨fun q => (D q ∧ ¬ (Value.slice ao s.sts.length c).ownBlock = some q) ∨ q = g' ∨ v.ownBlock = some q, ⟨fun k hk => ?_, fun k hk cs m e => ?_, ⟨by rw [List.length_append]; have := h3.1; show s.num.length ≤ s.sts.length + 1; omega, by rw [List.length_append]; show s.sts.length + 1 ≤ 5000; omega⟩, sl', pb, 0, xs ++ [(⟨fin, ms⟩, v, ys)], dm, hb2, .inl ⟨dmb, hnsv _ (.inl ⟨_, _, _, hb, by decide⟩)⟩, .inl ⟨dpb, hnsv _ (.inr hpbm)⟩, ownsMap_chg hm hcV (hne _ (.inr hpbm)), hnum, ?_, ?_, ?_, ?_⟩, ?_⟩
    · rcases hk with hk | rfl | hk
      · exact Nat.lt_of_lt_of_le (h1 k hk.1) hcV.size
      · exact (hrowV.lt _ hob).2
      · exact Nat.lt_of_lt_of_le (hv.own.lt k hk).2 hcV.size
    · rcases hk with hk | rfl | hk
      · by_cases hkm : k = mb
        · subst hkm; rw [hb2] at e; simp at e
        · exact h2 k hk.1 cs m (by rw [← hcV.block k (h1 k hk.1) (fun e => e.elim hkm hk.2)]; exact e)
      · obtain ⟨cs', m', e2⟩ := ownsRow_block hrowV k hob
        rw [e2] at e; simp at e
      · obtain ⟨cs', m', e2⟩ := hvo k hk
        have := hcV.at e2 (hne k (.inl ⟨_, _, _, e2, by decide, by decide⟩))
        rw [this] at e; simp at e
    · rw [List.flatMap_append]
      show V.ownsRow 0 69 2 sl' (s.sts ++ [_]).length _
      rw [List.length_append]
      exact hrowV
    · rw [List.map_append, hfst]; rfl
    · intro q hq
      rw [hob] at hq
      cases hq
      exact .inr (.inl rfl)
    · intro x hxm
      rcases List.mem_append.1 hxm with hxm | hxm
      · obtain ⟨⟨l, ho⟩, hbx, hl⟩ := hx x hxm
        have hk75 : ∀ q, x.2.1.ownBlock = some q → ∃ cs m, W.heap[q]? = some (.cells cs 75 m) := ownsRow_block ho.own
        refine ⟨⟨l, ho.typed hcV (fun q hq => ?_) h3t⟩, fun q hq => ?_, hl⟩
        · obtain ⟨cs, m, hb⟩ := hk75 q hq
          exact hne _ (.inl ⟨cs, 75, m, hb, by decide, by decide⟩)
        · obtain ⟨cs, m, hb⟩ := hk75 q hq
          exact .inl ⟨hbx q hq, hnsv _ (.inl ⟨cs, 75, m, hb, by decide⟩)⟩
      · obtain rfl := List.mem_singleton.1 hxm
        refine ⟨⟨lo, hv.typed hcV (fun q hq => ?_) h3t⟩, fun q hq => .inr (.inr hq), hml⟩
        obtain ⟨cs, m, hb⟩ := hvo q hq
        exact hne _ (.inl ⟨cs, 75, m, hb, by decide, by decide⟩)
    · rintro q (hq | rfl | hq)
      · exact .inl hq.1
      · rcases hlies with hl | hl
        · exact .inl (hown q hl)
        · exact .inr (.inl (by omega))
      · exact .inr (.inr hq)
theorem zeroInt (w : World) : (zeroValue 3).run Tryz.prog w = .ok (.int .i64 0) w := by kernel_rfl
theorem MkIs.look {D : Nat → Prop} {W : World} {mb : Nat} {nv : Value} {s : MkS} {mv : Int} (h : MkIs W D mb nv s mv) (key : List UInt8) (hk : key.length ≤ 1000000000) :
    ∃ pb, W.cell? ⟨mb, 2, none⟩ = some (.map (some pb)) ∧ ∃ c : Int, (Instr.lookup 60 (.map (some pb)) (.string ⟨key.toArray⟩) true).run Tryz.prog W = .ok (.tuple #[.int .i64 c, .bool (s.num.lookup key).isSome]) W ∧ ∀ n, s.num.lookup key = some n → c = (n : Int) := by
  obtain ⟨h1, h2, h3, sv, pb, lo, xs, dm, hb, dmb, dpb, hm, hnum, hrow, hfst, hown, hx⟩ := h
  refine ⟨pb, cell_row hb 2 rfl, ?_⟩
  have hkey : keyOf Tryz.prog 9 (.string ⟨key.toArray⟩) = some (.string key) := keyOf_string_mk Tryz.underlying9 (s := ⟨key.toArray⟩) (by show key.toArray.size ≤ _; unfold maxLen; simp; omega)
  obtain ⟨v, ps, hrun, hv⟩ := hm.look_ok (string_keyed Tryz.underlying9) Tryz.underlying60 (zeroInt W) (plainElem_int Tryz.underlying3 (by decide)) hkey
  obtain ⟨c, rfl, hc, _⟩ := plainElem_int_inv Tryz.underlying3 hv
  rw [(hnum.2 key).1] at hrun
  refine ⟨c, hrun, fun n hn => ?_⟩
  have e1 := (hnum.2 key).2 n hn
  have e2 := congrArg Prod.fst hc
  simp only at e2
  rw [e1] at e2
  simpa using e2.symm
theorem MkIs.number {D : Nat → Prop} {W : World} {mb : Nat} {nv : Value} {s : MkS} {mv : Int} (h : MkIs W D mb nv s mv) (hlt : s.num.length < s.sts.length) (key : List UInt8) (hk : key.length ≤ 1000000000) (n : Nat) (hn : n ≤ 1000000) :
    ∃ pb, W.cell? ⟨mb, 2, none⟩ = some (.map (some pb)) ∧ ∃ W', (Instr.mapUpdate 60 (.map (some pb)) (.string ⟨key.toArray⟩) (.int .i64 (n : Int))).run Tryz.prog W = .ok () W' ∧ MkIs W' D mb nv ⟨s.sts, (key, n) :: s.num⟩ mv ∧ Chg D W W' := by
  obtain ⟨h1, h2, h3, sv, pb, lo, xs, dm, hb, dmb, dpb, hm, hnum, hrow, hfst, hown, hx⟩ := h
  refine ⟨pb, cell_row hb 2 rfl, ?_⟩
  have hkey : keyOf Tryz.prog 9 (.string ⟨key.toArray⟩) = some (.string key) := keyOf_string_mk Tryz.underlying9 (s := ⟨key.toArray⟩) (by show key.toArray.size ≤ _; unfold maxLen; simp; omega)
  obtain ⟨W', hrun, hm', hg⟩ := hm.update (string_keyed Tryz.underlying9) Tryz.underlying60 (by unfold maxLen; have := h3.2; omega) hkey (plainElem_int Tryz.underlying3 (a := (n : Int)) (WalkArith.wf_i64 (by omega)))
  have hc : Chg (At1 pb) W W' := (Chg.refl _ _).grown hg (fun q hq _ => by cases hq; rfl)
  obtain ⟨es, clock, hpb, _⟩ := hm
  have hne : ∀ q, (∃ cs t m, W.heap[q]? = some (.cells cs t m)) → ¬ At1 pb q := by
    rintro q ⟨cs, t, m, h⟩ e
    have e : q = pb := e
    subst e
    rw [hpb] at h; simp at h
  refine ⟨W', hrun, ⟨fun k hk => Nat.lt_of_lt_of_le (h1 k hk) hc.size, fun k hk cs m e => ?_, ⟨hlt, h3.2⟩, sv, pb, lo, xs, dm.put (.string key) (.lit (.int .i64 (n : Int))), hc.at hb (hne _ ⟨_, _, _, hb⟩), dmb, dpb, hm', ?_, ownsRow_chg hrow hc (fun q hq => ?_), hfst, hown, fun x hxm => ?_⟩, hc.mono (fun q _ e => by have e : q = pb := e; exact e ▸ dpb)⟩
  · by_cases hkp : k = pb
    · subst hkp
      obtain ⟨es', clock', hpb', _⟩ := hm'
      rw [hpb'] at e; simp at e
    · exact h2 k hk cs m (by rw [← hc.block k (h1 k hk) hkp]; exact e)
  · refine ⟨hnum.1.put _ _, fun k => ?_⟩
    by_cases hkk : k = key
    · subst hkk
      refine ⟨?_, fun m hm => ?_⟩
      · rw [has_put_same hnum.1 (k := .string k) trivial, List.lookup_cons_self]; rfl
      · rw [List.lookup_cons_self] at hm
        cases hm
        exact atKey_put_same hnum.1 (k := .string k) trivial _ _
    · have hbe : (k == key) = false := beq_eq_false_iff_ne.2 hkk
      have hne : (Lit.string k) ≠ .string key := fun e => hkk (by simpa using e)
      refine ⟨?_, fun m hm => ?_⟩
      · rw [has_put_other hne, List.lookup_cons, hbe]; exact (hnum.2 k).1
      · rw [List.lookup_cons, hbe] at hm
        rw [atKey_put_other hne]; exact (hnum.2 k).2 m hm
  · obtain ⟨cs, m, e⟩ := ownsRow_block hrow q hq
    exact hne _ ⟨_, _, _, e⟩
  · obtain ⟨⟨l, ho⟩, hbx, hl⟩ := hx x hxm
    refine ⟨⟨l, ho.typed hc (fun q hq => ?_) (fun q e cs m h => hne q ⟨_, _, _, h⟩ e)⟩, hbx, hl⟩
    obtain ⟨cs, m, e⟩ := ownsRow_block ho.own q hq
    exact hne _ ⟨_, _, _, e⟩
end Go.Proofs.YtkgfdgfhpdhhaaaGreat
namespace Go.Proofs.YtkgfdgfhpdhhaaaGreat
open Go.ChangeShapes Go.WideShapes Go.RowKit
attribute [local go_sem] Oper.semAt_some
theorem MOwn.min2 {W : World} {lo : Nat} {sl : Value} {ms : List Mvi} {xs : List MvS} (h : MOwn W lo sl ms xs) : ∃ ao c, sl = .slice ao ms.length c ∧ MIn W ao xs ∧ (ao = none → c = 0) := by
  obtain ⟨ao, c, e, k⟩ := h.min
  refine ⟨ao, c, e, k, ?_⟩
  rintro rfl
  rcases h.own.2 with ⟨e2, _⟩ | ⟨g, cap, cur, e2, _⟩
  · rw [e] at e2
    simp at e2
    exact e2.2
  · rw [e] at e2
    simp at e2
theorem MIn.cells {W : World} {b o : Nat} {ys : List MvS} (h : ∀ j x, ys[j]? = some x → W.cell? ⟨b, o + j * 3, none⟩ = some (.int .u64 x.1.yes) ∧ W.cell? ⟨b, o + j * 3 + 1, none⟩ = some (.int .u64 x.1.no) ∧ W.cell? ⟨b, o + j * 3 + 2, none⟩ = some (.slice x.2.1 x.1.to.length x.2.2)) (j : Nat) (u : Value) (hj : (ys.flatMap cellsM)[j]? = some u) : W.cell? ((⟨b, o, none⟩ : Addr).add j) = some u := by
  have hlen : (ys.flatMap cellsM).length = ys.length * 3 := by
    clear hj h
    induction ys with
    | nil => rfl
    | cons y ys ih => rw [List.flatMap_cons, List.length_append, ih]; simp [cellsM]; omega
  have hlt := (List.getElem?_eq_some_iff.1 hj).1
  rw [hlen] at hlt
  obtain ⟨i, r, hr, rfl⟩ : ∃ i r, r < 3 ∧ j = i * 3 + r := ⟨j / 3, j % 3, Nat.mod_lt _ (by omega), by omega⟩
  have hi : i < ys.length := by omega
  rw [flatM_at (List.getElem?_eq_getElem hi) hr] at hj
  obtain ⟨c0, c1, c2⟩ := h i _ (List.getElem?_eq_getElem hi)
  rw [Go.WideShapes.add_plain, ← Nat.add_assoc]
  have hr3 : r = 0 ∨ r = 1 ∨ r = 2 := by omega
  rcases hr3 with rfl | rfl | rfl
  · rw [Nat.add_zero, c0]; exact hj
  · rw [c1]; exact hj
  · rw [c2]; exact hj
theorem MOwn.concat {W : World} {lo : Nat} {sl : Value} {ms ms2 : List Mvi} {xs ys : List MvS} {ao : Option Addr} {c : Nat} (h : MOwn W lo sl ms xs) (hlo : lo ≤ W.heap.size) (hk : ys.map (·.1) = ms2) (k : MIn W ao ys) (hnil : ao = none → c = 0) (hn : ms.length + ms2.length ≤ 1000000) :
    ∃ sl' W', (Builtin.append_ #[67, 67] 67 #[sl, .slice ao ms2.length c]).run Tryz.prog W = .ok sl' W' ∧ MOwn W' lo sl' (ms ++ ms2) (xs ++ ys) ∧ Chg (fun q => sl.ownBlock = some q) W W' ∧ ∀ q, sl'.ownBlock = some q → sl.ownBlock = some q ∨ W.heap.size ≤ q := by
  obtain ⟨i, hi, hz, hs, hb⟩ := info75_parts
  have hyl : ys.length = ms2.length := by rw [← hk, List.length_map]
  have hty : ∀ q, sl.ownBlock = some q → ∀ cs m, W.heap[q]? ≠ some (.cells cs 3 m) := fun q hq cs m hb => by
    obtain ⟨cs', m', hb2⟩ := ownsRow_block h.own q hq
    rw [hb] at hb2
    simp at hb2
  have htos : ∀ y ∈ ys, y.1.to.length ≤ 2000000 ∧ TRow W 0 y.2.1 y.1.to ∧ (y.2.1 = none → y.2.2 = 0) := fun y hy => by
    obtain ⟨j, hj, rfl⟩ := List.mem_iff_getElem.1 hy
    obtain ⟨_, _, _, _, _, _, r⟩ := k j _ (List.getElem?_eq_getElem hj)
    exact r
  cases ao with
  | none =>
    have hys : ys = [] := by
      cases ys with
      | nil => rfl
      | cons y ys => obtain ⟨_, _, e, _⟩ := k 0 y rfl; cases e
    subst hys
    obtain rfl : ms2 = [] := by rw [← hk]; rfl
    obtain rfl := hnil rfl
    refine ⟨sl, W, run_append_owned_none (P := Tryz.prog) (w := W) lo 67 67 75 i 3 Tryz.underlying67 hi sl _ _ h.own, ?_, Chg.refl _ _, fun q e => .inl e⟩
    rw [List.append_nil, List.append_nil]
    exact h
  | some a =>
    have hcell : ∀ j u, (ys.flatMap cellsM)[j]? = some u → W.cell? (a.add j) = some u := by
      cases ys with
      | nil => intro j u hj; simp at hj
      | cons y ys' =>
        obtain ⟨b, o, e, _⟩ := k 0 y rfl
        cases e
        refine MIn.cells (fun j x hj => ?_)
        obtain ⟨b2, o2, e, c0, c1, c2, _⟩ := k j x hj
        cases e
        exact ⟨c0, c1, c2⟩
    have h1 : ∀ u ∈ ys.flatMap cellsM, u.oneCell' = true := fun u hu => by
      obtain ⟨y, _, hy⟩ := List.mem_flatMap.1 hu
      exact cellsM_one y u hy
    have hlen : (ys.flatMap cellsM).length = ms2.length * 3 := by
      rw [← hyl]
      clear hcell h1 htos k hk hyl
      induction ys with
      | nil => rfl
      | cons y ys ih => rw [List.flatMap_cons, List.length_append, ih]; simp [cellsM]; omega
    obtain ⟨v', W', hr, h2, h3, _, h5⟩ := run_append_own_at (P := Tryz.prog) W lo 67 67 75 i _ 3 40 Tryz.underlying67 hi hz hs hb rfl (by decide) sl _ _ h.own a ms2.length c (ys.flatMap cellsM) hlen hcell h1 (by unfold maxLen; omega) (by omega) hlo
    have hc : Chg (fun q => sl.ownBlock = some q) W W' := (Chg.refl _ _).grown h3 (fun q hq _ => hq)
    refine ⟨v', W', hr, ⟨?_, by rw [List.map_append, h.fst, hk], fun y hy => ?_⟩, hc, fun q hq => ?_⟩
    · rw [List.length_append, List.flatMap_append]; exact h2
    · rcases List.mem_append.1 hy with hy | hy
      · obtain ⟨p, q, r⟩ := h.tos y hy
        exact ⟨p, q.typed hc hty, r⟩
      · obtain ⟨p, q, r⟩ := htos y hy
        exact ⟨p, q.typed hc hty, r⟩
    · rcases h5 with e | e
      · exact .inl (e ▸ hq)
      · rw [e] at hq; cases hq; exact .inr (Nat.le_refl _)
def SetN (n : Nat) (l : List Int) : Prop := l.Pairwise (· < ·) ∧ ∀ k ∈ l, 0 ≤ k ∧ k < (n : Int)
theorem SetN.mono {n m : Nat} {l : List Int} (h : SetN n l) (hn : n ≤ m) : SetN m l := ⟨h.1, fun k hk => by have := h.2 k hk; omega⟩
theorem rising_length : ∀ {l : List Int} {a b : Int}, l.Pairwise (· < ·) → (∀ k ∈ l, a ≤ k ∧ k < b) → a ≤ b → (l.length : Int) ≤ b - a
  | [], a, b, _, _, h => by simp; omega
  | x :: l, a, b, h, k, hab => by
    have h1 := k x (List.mem_cons_self ..)
    rw [List.pairwise_cons] at h
    have := rising_length (a := x + 1) h.2 (fun z hz => ⟨by have := h.1 z hz; omega, (k z (List.mem_cons_of_mem _ hz)).2⟩) (by omega)
    rw [List.length_cons]
    omega
theorem SetN.len {n : Nat} {l : List Int} (h : SetN n l) : l.length ≤ n := by
  have := rising_length (a := 0) (b := (n : Int)) h.1 h.2 (by omega)
  omega
def MkOk (s : MkS) : Prop := (∀ k n, s.num.lookup k = some n → n < s.sts.length) ∧ s.sts.length ≤ 4096 ∧ ∀ i st, s.sts[i]? = some st → st.moves.length ≤ 4096 ∧ ∀ m ∈ st.moves, SetN (i + 1) m.to
def MkPost {α : Type} (D : Nat → Prop) (mb : Nat) (nv : Value) (W : World) (s : MkS) (r : Option (α × MkS)) (R : (Nat → Prop) → World → Value → α → MkS → Prop) (e : Ending) (W' : World) : Prop :=
  Chg D W W' ∧ ((r = none ∧ e = .panicked manyE) ∨ ∃ x s' v D', r = some (x, s') ∧ e = .returned v ∧ MkIs W' D' mb nv s' (sumN s'.sts) ∧ Grows D D' W.heap.size ∧ MkOk s' ∧ s.sts.length ≤ s'.sts.length ∧ R D' W' v x s')
def WaysR (lo : Nat) (D : Nat → Prop) (W : World) (v : Value) (ms : List Mvi) (s : MkS) : Prop :=
  (∃ xs, MOwn W lo v ms xs) ∧ (∀ q, v.ownBlock = some q → ¬ D q) ∧ ms.length ≤ 4096 ∧ ∀ m ∈ ms, SetN s.sts.length m.to
def SetsR (lo : Nat) (D : Nat → Prop) (W : World) (v : Value) (ls : List (List Int)) (s : MkS) : Prop :=
  (∃ xs, SOwn W lo v ls xs) ∧ (∀ q, v.ownBlock = some q → ¬ D q) ∧ ls.length ≤ 4096 ∧ ∀ l ∈ ls, SetN s.sts.length l
def NumR (_ : Nat → Prop) (_ : World) (v : Value) (n : Nat) (s : MkS) : Prop := v = .int .i64 (n : Int) ∧ n < s.sts.length
def NmIs (R : Nat → Prop) (W : World) (nv : Value) (L : List (List UInt8)) : Prop := Texts W nv L ∧ ∀ b o n c, nv = .slice (some ⟨b, o, none⟩) n c → L ≠ [] → R b
theorem NmIs.chg {R S : Nat → Prop} {W W' : World} {nv : Value} {L : List (List UInt8)} (h : NmIs R W nv L) (hc : Chg S W W') (hs : ∀ q, S q → ¬ R q) : NmIs R W' nv L := by
  obtain ⟨⟨ao, cp, rfl, hl, hx⟩, hb⟩ := h
  refine ⟨⟨ao, cp, rfl, hl, fun j x hj => ?_⟩, hb⟩
  obtain ⟨b, o, rfl, hc2⟩ := hx j x hj
  refine ⟨b, o, rfl, hc.cell' hc2 (fun e => hs b e (hb b o _ _ rfl (fun e => by rw [e] at hj; simp at hj)))⟩
theorem NmIs.nob {R : Nat → Prop} {W W' : World} {nv : Value} {L : List (List UInt8)} (h : NmIs R W nv L) (hc : Chg Nob W W') : NmIs R W' nv L := h.chg hc (fun _ e => e.elim)
def WaysC (R : Nat → Prop) (mb : Nat) (nv : Value) (L : List (List UInt8)) (t : T) (f : MkS → Option (List Mvi × MkS)) : Prop := ∀ (W : World) (D : Nat → Prop) (s : MkS) (v : Value), MkIs W D mb nv s (sumN s.sts) → MkOk s → IsTree R W t v → NmIs R W nv L → (∀ q, D q → ¬ R q) → (∀ q, R q → q < W.heap.size) →
  Calls Tryz.prog 115 #[.pointer (some ⟨mb, 0, none⟩), v] W (MkPost D mb nv W s (f s) (WaysR W.heap.size))
def SetsC (R : Nat → Prop) (mb : Nat) (nv : Value) (L : List (List UInt8)) (t : T) (f : MkS → Option (List (List Int) × MkS)) : Prop := ∀ (W : World) (D : Nat → Prop) (s : MkS) (v : Value), MkIs W D mb nv s (sumN s.sts) → MkOk s → IsTree R W t v → NmIs R W nv L → (∀ q, D q → ¬ R q) → (∀ q, R q → q < W.heap.size) →
  Calls Tryz.prog 30 #[.pointer (some ⟨mb, 0, none⟩), v] W (MkPost D mb nv W s (f s) (SetsR W.heap.size))
def StateC (R : Nat → Prop) (mb : Nat) (nv : Value) (L : List (List UInt8)) (t : T) (f : MkS → Option (Nat × MkS)) : Prop := ∀ (W : World) (D : Nat → Prop) (s : MkS) (v : Value), MkIs W D mb nv s (sumN s.sts) → MkOk s → IsTree R W t v → NmIs R W nv L → (∀ q, D q → ¬ R q) → (∀ q, R q → q < W.heap.size) →
  Calls Tryz.prog 62 #[.pointer (some ⟨mb, 0, none⟩), v] W (MkPost D mb nv W s (f s) NumR)
def leastO (l : List Mvi) : Option (List Mvi) := if 4096 < l.length then none else some (leastI l l.length)
def bothO (a b : List Mvi) : Option (List Mvi) := if 4096 < (pairsI a b).length then none else some (leastI (pairsI a b) (pairsI a b).length)
def stateI (key : List UInt8) (fin : Bool) (raw : MkS → Option (List Mvi × MkS)) : MkS → Option (Nat × MkS) := fun s =>
  match s.num.lookup key with
  | some n => some (n, s)
  | none => (raw s).bind fun (ms, s') => if 131072 < sumN s'.sts + ms.length ∨ 4096 ≤ s'.sts.length then none else some (s'.sts.length, ⟨s'.sts ++ [⟨fin, ms⟩], (key, s'.sts.length) :: s'.num⟩)
def untilI (a b : MkS → Option (List Mvi × MkS)) : MkS → Option (List Mvi × MkS) := fun s =>
  (a s).bind fun (x, s1) => (b s1).bind fun (y, s2) => (bothO x [⟨0, 0, [(s2.sts.length : Int)]⟩]).bind fun p => (leastO (y ++ p)).map fun q => (q, s2)
end Go.Proofs.YtkgfdgfhpdhhaaaGreat
namespace Go.Proofs.YtkgfdgfhpdhhaaaGreat
open Go.ChangeShapes Go.WideShapes Go.RowKit
theorem imem_compact {l : List Int} {x : Int} (h : x ∈ Lib.compact l) : x ∈ l := by
  unfold Lib.compact Lib.compactUpTo at h
  rw [List.mem_map] at h
  obtain ⟨i, hi, rfl⟩ := h
  rw [List.mem_filter, List.mem_range] at hi
  rw [getElem!_pos l.toArray i (by simpa using hi.1)]
  simp
theorem compact_rising {l : List Int} (h : l.Pairwise (· ≤ ·)) : (Lib.compact l).Pairwise (· < ·) := by
  unfold Lib.compact Lib.compactUpTo
  rw [List.pairwise_map]
  have h1 : ((List.range l.length).filter (Lib.keeps l.toArray)).Pairwise (· < ·) := List.Pairwise.filter _ List.pairwise_lt_range
  refine h1.imp_of_mem (fun {i j} hi hj hij => ?_)
  rw [List.mem_filter, List.mem_range] at hi hj
  rw [List.pairwise_iff_getElem] at h
  have hj1 : j - 1 < l.length := by omega
  rw [getElem!_pos l.toArray i (by simpa using hi.1), getElem!_pos l.toArray j (by simpa using hj.1)]
  have hk := hj.2
  unfold Lib.keeps at hk
  rw [getElem!_pos l.toArray j (by simpa using hj.1), getElem!_pos l.toArray (j - 1) (by simpa using hj1)] at hk
  simp only [List.getElem_toArray] at hk ⊢
  have hne : l[j] ≠ l[j - 1] := by
    have hj0 : j ≠ 0 := by omega
    simpa [hj0] using hk
  have h2 : l[j - 1] ≤ l[j] := h (j - 1) j hj1 hj.1 (by omega)
  have h3 : l[i] ≤ l[j - 1] := by
    rcases Nat.lt_or_ge i (j - 1) with e | e
    · exact h i (j - 1) hi.1 hj1 e
    · have e : i = j - 1 := by omega
      subst e; exact Int.le_refl _
  omega
theorem joinI_set {n : Nat} {a b : List Int} (ha : SetN n a) (hb : SetN n b) : SetN n (joinI a b) := by
  unfold joinI
  refine ⟨compact_rising ?_, fun k hk => ?_⟩
  · have := List.pairwise_mergeSort (le := fun x y : Int => decide (x ≤ y)) (fun a b c h k => by simp at *; omega) (fun a b => by simp; omega) (a ++ b)
    exact this.imp (fun h => by simpa using h)
  · have hk := imem_compact hk
    rw [List.mem_mergeSort, List.mem_append] at hk
    exact hk.elim (ha.2 k) (hb.2 k)
theorem prodN_mem {a b : List Mvi} {k : Nat} {m : Mvi} (h : m ∈ prodN a b k) (hk : k ≤ a.length * b.length) : ∃ x ∈ a, ∃ y ∈ b, pairI x y = some m := by
  unfold prodN at h
  rw [List.mem_filterMap] at h
  obtain ⟨p, hp, h⟩ := h
  rw [List.mem_range] at hp
  have hb : 0 < b.length := by
    rcases Nat.eq_zero_or_pos b.length with e | e
    · rw [e, Nat.mul_zero] at hk; omega
    · exact e
  have h1 : p / b.length < a.length := by rw [Nat.div_lt_iff_lt_mul hb]; omega
  have h2 : p % b.length < b.length := Nat.mod_lt _ hb
  unfold atP at h
  rw [List.getD_eq_getElem?_getD, List.getD_eq_getElem?_getD, List.getElem?_eq_getElem h1, List.getElem?_eq_getElem h2] at h
  exact ⟨_, List.getElem_mem h1, _, List.getElem_mem h2, h⟩
theorem pairI_to {x y m : Mvi} (h : pairI x y = some m) : m.to = joinI x.to y.to := by
  unfold pairI at h
  split at h
  · cases h; rfl
  · cases h
theorem pairsI_set {n : Nat} {a b : List Mvi} (ha : ∀ m ∈ a, SetN n m.to) (hb : ∀ m ∈ b, SetN n m.to) : ∀ m ∈ pairsI a b, SetN n m.to := fun m hm => by
  obtain ⟨x, hx, y, hy, h⟩ := prodN_mem hm (Nat.le_refl _)
  rw [pairI_to h]
  exact joinI_set (ha x hx) (hb y hy)
theorem leastI_mem {l : List Mvi} {n : Nat} (hn : n ≤ l.length) {m : Mvi} (h : m ∈ leastI l n) : m ∈ l := by
  unfold leastI at h
  rw [List.mem_map] at h
  obtain ⟨i, hi, rfl⟩ := h
  rw [List.mem_filter, List.mem_range] at hi
  have h1 : i < l.length := by omega
  rw [List.getD_eq_getElem?_getD, List.getElem?_eq_getElem h1]
  exact List.getElem_mem h1
theorem leastI_len (l : List Mvi) (n : Nat) : (leastI l n).length ≤ n := by
  unfold leastI
  rw [List.length_map]
  have := List.length_filter_le (fun i => keepI l i l.length) (List.range n)
  rwa [List.length_range] at this
end Go.Proofs.YtkgfdgfhpdhhaaaGreat
