/- The reference's comparison of formulas; whether a kind is in one; a pick. Conditions: as each theorem states. -/
import Derived.Test.YtkgfdgfhpdhhaaaSame
import Derived.Test.YtkgfdgfhpdhhaaaSize
import Derived.Test.YtkgfdgfhpdhhaaaLev
namespace Go.Proofs.Ytkgfdgfhpdhhaaa
open Go.ChangeShapes Go.WideShapes Go.RowKit Go.Shelf Go.Sort

theorem sameT_kinds {t u : T} (h : (t.kind == u.kind) = false) : sameT t u = false := by rw [sameT_eq, h]; rfl
theorem sameT_names {t u : T} (h : (t.name == u.name) = false) : sameT t u = false := by rw [sameT_eq, h]; simp
theorem sameT_lens {t u : T} (h : t.kids.length ≠ u.kids.length) : sameT t u = false := by rw [sameT_eq, sameL_len h]; simp
theorem sameT_kid {t u : T} (h : sameL t.kids u.kids = false) : sameT t u = false := by rw [sameT_eq, h]; simp
theorem sameT_yes {t u : T} (h1 : (t.kind == u.kind) = true) (h2 : (t.name == u.name) = true) (h3 : sameL t.kids u.kids = true) : sameT t u = true := by rw [sameT_eq, h1, h2, h3]; rfl

set_option maxRecDepth 100000 in
set_option maxHeartbeats 4000000 in
theorem rsame_any : ∀ t : T, SameC 26 t := by
  refine kid_induct ?_
  intro t ih R1 R2 u v1 v2 w ht hu
  obtain ⟨a1, cp1, rfl, hl1, hk1⟩ := ht.parts
  obtain ⟨a2, cp2, rfl, hl2, hk2⟩ := hu.parts
  have hW : Hid (∃ W, W = ((w.alloc (.cells #[.int .i64 t.kind, .string ⟨t.name.toArray⟩, .slice a1 t.kids.length cp1] 37)).alloc (.cells #[.int .i64 u.kind, .string ⟨u.name.toArray⟩, .slice a2 u.kids.length cp2] 37)) ∧ Chg Nob w W ∧
      W.heap[w.heap.size]? = some (.cells #[.int .i64 t.kind, .string ⟨t.name.toArray⟩, .slice a1 t.kids.length cp1] 37 (0, 0)) ∧ W.heap[w.heap.size + 1]? = some (.cells #[.int .i64 u.kind, .string ⟨u.name.toArray⟩, .slice a2 u.kids.length cp2] 37 (0, 0))) := by
    have h1 := heap_alloc_new (w.alloc (.cells #[.int .i64 t.kind, .string ⟨t.name.toArray⟩, .slice a1 t.kids.length cp1] 37)) (.cells #[.int .i64 u.kind, .string ⟨u.name.toArray⟩, .slice a2 u.kids.length cp2] 37)
    rw [World.size_alloc] at h1
    exact ⟨_, rfl, ((Chg.refl _ _).alloc _).alloc _, ((Chg.refl Nob _).alloc _).at (heap_alloc_new w _) (fun e => e), h1⟩
  have Hk1 := Lib.hid hk1
  have Hk2 := Lib.hid hk2
  have Ih := Lib.hid ih
  clear ih ht hu hk1 hk2
  cases hk : (t.kind == u.kind) with
  | false =>
    have hkn : (t.kind != u.kind) = true := by rw [bne, hk]; rfl
    have Hr := Lib.hid (sameT_kinds hk)
    have HcW := Lib.hid (let ⟨_, h, c, _⟩ := hW.out; (h ▸ c : Chg Nob w _))
    clear hW
    go_enter Try.func26, Try.ntmps26
    go_wp2
    go_ret
    exact ⟨by rw [Hr.out]; rfl, HcW.out⟩
  | true =>
    have hkn : (t.kind != u.kind) = false := by rw [bne, hk]; rfl
    cases hn : (t.name == u.name) with
    | false =>
      have hnn : (t.name != u.name) = true := by rw [bne, hn]; rfl
      have Hr := Lib.hid (sameT_names hn)
      have HcW := Lib.hid (let ⟨_, h, c, _⟩ := hW.out; (h ▸ c : Chg Nob w _))
      clear hW
      go_enter Try.func26, Try.ntmps26
      go_wp2
      go_ret
      exact ⟨by rw [Hr.out]; rfl, HcW.out⟩
    | true =>
      have hnn : (t.name != u.name) = false := by rw [bne, hn]; rfl
      have Hkn := Lib.hid (And.intro hk hn)
      by_cases hlen : t.kids.length = u.kids.length
      · have hle : ((t.kids.length : Int) != (u.kids.length : Int)) = false := by rw [hlen]; simp
        have hle2 : ((t.kids.length : Int) == (u.kids.length : Int)) = true := by rw [hlen]; simp
        have Hlen := Lib.hid hlen
        clear hlen
        go_enter Try.func26, Try.ntmps26
        go_wp2_with fail
        obtain ⟨W, hWe, hcW, hb1, hb2⟩ := hW.out
        rw [← hWe]
        clear hW hWe hle hle2 hk hn hkn hnn
        have Hb1 := Lib.hid hb1
        have Hb2 := Lib.hid hb2
        clear hb1 hb2
        go_loopw [5] (fun i wr => ∃ j : Nat, i = .int .i64 j ∧ j ≤ t.kids.length ∧ Hid (∀ q x y, q < j → t.kids[q]? = some x → u.kids[q]? = some y → sameT x y = true) ∧ Chg Nob W wr) (fun i _ => t.kids.length - (intOf i).toNat)
        case atStart => exact ⟨0, rfl, Nat.zero_le _, fun q t u h => absurd h (Nat.not_lt_zero q), Chg.refl _ _⟩
        case round =>
          obtain ⟨j, rfl, hj, hall, hc⟩ := hrel
          have d2 := cell_row (hc.at Hb1.out (fun e => e)) 2 (v := .slice a1 t.kids.length cp1) rfl
          have e2 := cell_row (hc.at Hb2.out (fun e => e)) 2 (v := .slice a2 u.kids.length cp2) rfl
          by_cases hlt : j < t.kids.length
          · obtain ⟨x, hx⟩ : ∃ x, t.kids[j]? = some x := ⟨_, List.getElem?_eq_getElem hlt⟩
            have hltu : j < u.kids.length := by have := Hlen.out; omega
            obtain ⟨y, hy⟩ : ∃ y, u.kids[j]? = some y := ⟨_, List.getElem?_eq_getElem hltu⟩
            obtain ⟨b1, o1, ak1, cap1, hao1, _, p0, p1, p2, _, _, htr1⟩ := Hk1.out.kid hx
            obtain ⟨b2, o2, ak2, cap2, hao2, _, q0, q1, q2, _, _, htr2⟩ := Hk2.out.kid hy
            have hcc := hcW.trans1 hc
            have p0' := fun d os => cell_regrown (hcc.cell' p0 (fun e => e)) d os
            have p1' := fun d os => cell_regrown (hcc.cell' p1 (fun e => e)) d os
            have p2' := fun d os => cell_regrown (hcc.cell' p2 (fun e => e)) d os
            have q0' := fun d os => cell_regrown (hcc.cell' q0 (fun e => e)) d os
            have q1' := fun d os => cell_regrown (hcc.cell' q1 (fun e => e)) d os
            have q2' := fun d os => cell_regrown (hcc.cell' q2 (fun e => e)) d os
            have d2' := fun d os => cell_regrown d2 d os
            have e2' := fun d os => cell_regrown e2 d os
            have hcall : ∀ X, Chg Nob wr X → Calls Try.prog 26 #[.agg #[.int .i64 x.kind, .string ⟨x.name.toArray⟩, .slice ak1 x.kids.length cap1], .agg #[.int .i64 y.kind, .string ⟨y.name.toArray⟩, .slice ak2 y.kids.length cap2]] X fun e w' => e = .returned (.bool (sameT x y)) ∧ Chg Nob X w' :=
              fun X hX => Ih.out x (List.mem_of_getElem? hx) R1 R2 y _ _ X (htr1.nob (hcc.trans1 hX)) (htr2.nob (hcc.trans1 hX))
            have Hcall := Lib.hid hcall
            have hki : (j : Int) < (t.kids.length : Int) := by omega
            have hku : (j : Int) < (u.kids.length : Int) := by omega
            have hk0 : (0 : Int) ≤ (j : Int) := by omega
            have Hx := Lib.hid hx
            have Hy := Lib.hid hy
            clear p0 p1 p2 q0 q1 q2 htr1 htr2 hx hy hcall
            subst hao1 hao2
            go_wp2_with fail
            refine wp_region_quiet_below (by kernel_rfl) (by kernel_rfl) ?_
            repeat (go_big_quiet_step ((go_at_call 26; exact regrown_chg (Hcall.out _ (Chg.of_below (below_regrown _ _ _))))))
            refine wpQuiet_nil ?_
            intro _ hw'
            obtain ⟨⟨dq, osq⟩, hw''⟩ := hw'
            subst hw''
            have hcq := hc.trans1 (Chg.of_below (below_regrown wr dq osq))
            clear p0' p1' p2' q0' q1' q2' d2' e2' d2 e2
            generalize grow (redrawn wr dq) osq = w5 at *
            cases hs : sameT x y with
            | true =>
              go_wp2_with fail
              go_roundw
              case rel => exact ⟨j + 1, by go_num, by omega, (show ∀ q x' y', q < j + 1 → t.kids[q]? = some x' → u.kids[q]? = some y' → sameT x' y' = true from fun q x' y' hq h1 h2 => by
                by_cases e : q = j
                · subst e
                  rw [Hx.out] at h1; cases h1
                  rw [Hy.out] at h2; cases h2
                  exact hs
                · exact hall.out q x' y' (by omega) h1 h2), hcq⟩
              case measure => simp [intOf]; omega
            | false =>
              have Hr := Lib.hid (sameT_kid (sameL_at Hx.out Hy.out hs))
              go_wp2
              go_ret
              exact ⟨by rw [Hr.out]; rfl, hcW.trans1 hcq⟩
          · obtain rfl : j = t.kids.length := by omega
            have Hr := Lib.hid (sameT_yes Hkn.out.1 Hkn.out.2 (sameL_all Hlen.out (fun q t u hq h1 h2 => hall.out q t u hq h1 h2)))
            go_wp2
            go_ret
            exact ⟨by rw [Hr.out]; rfl, hcW.trans1 hc⟩
      · have hle : ((t.kids.length : Int) != (u.kids.length : Int)) = true := by simp; omega
        have hle2 : ((t.kids.length : Int) == (u.kids.length : Int)) = false := by simp; omega
        have Hr := Lib.hid (sameT_lens hlen)
        have HcW := Lib.hid (let ⟨_, h, c, _⟩ := hW.out; (h ▸ c : Chg Nob w _))
        clear hlen hW
        go_enter Try.func26, Try.ntmps26
        go_wp2
        go_ret
        exact ⟨by rw [Hr.out]; rfl, HcW.out⟩

mutual
/-- Is a kind in a formula? -/
def hasT (k : Int) : T → Bool
  | .node k' _ kids => (k' == k) || hasL k kids
def hasL (k : Int) : List T → Bool
  | [] => false
  | t :: ts => hasT k t || hasL k ts
end
theorem hasT_eq (k : Int) (t : T) : hasT k t = ((t.kind == k) || hasL k t.kids) := by cases t; rw [hasT]; rfl
theorem hasL_at {k : Int} : ∀ {l : List T} {j : Nat} {t : T}, l[j]? = some t → hasT k t = true → hasL k l = true
  | [], _, _, h, _ => by simp at h
  | x :: l, 0, t, h, ht => by
    obtain rfl : x = t := by simpa using h
    rw [hasL, ht]; rfl
  | x :: l, j + 1, t, h, ht => by
    rw [hasL, hasL_at (j := j) (t := t) (by simpa using h) ht]; simp
theorem hasL_no {k : Int} : ∀ {l : List T}, (∀ (j : Nat) (t : T), l[j]? = some t → hasT k t = false) → hasL k l = false
  | [], _ => by rw [hasL]
  | x :: l, h => by
    rw [hasL, h 0 x rfl, hasL_no (fun j t ht => h (j + 1) t (by simpa using ht))]; rfl

set_option maxRecDepth 100000 in
set_option maxHeartbeats 4000000 in
theorem has_any (k : Int) : ∀ t : T, ∀ (R : Nat → Prop) (v : Value) (w : World), IsTree R w t v → Calls Try.prog 38 #[v, .int .i64 k] w fun e w' => e = .returned (.bool (hasT k t)) ∧ Chg Nob w w' := by
  refine kid_induct ?_
  intro t ih R v w ht
  obtain ⟨a1, cp1, rfl, hl1, hk1⟩ := ht.parts
  have hcW : Chg Nob w (w.alloc (.cells #[.int .i64 t.kind, .string ⟨t.name.toArray⟩, .slice a1 t.kids.length cp1] 37)) := (Chg.refl _ _).alloc _
  have Hb1 := Lib.hid (heap_alloc_new w (.cells #[.int .i64 t.kind, .string ⟨t.name.toArray⟩, .slice a1 t.kids.length cp1] 37))
  have Hk1 := Lib.hid hk1
  have Ih := Lib.hid ih
  clear ih ht hk1
  cases hk : (t.kind == k) with
  | true =>
    have Hr : Hid (hasT k t = true) := (show hasT k t = true by rw [hasT_eq, hk]; rfl)
    go_enter Try.func38, Try.ntmps38
    go_wp2
    go_ret
    exact ⟨by rw [Hr.out]; rfl, hcW⟩
  | false =>
    have Hk := Lib.hid hk
    go_enter Try.func38, Try.ntmps38
    go_wp2_with fail
    generalize w.alloc (.cells #[.int .i64 t.kind, .string ⟨t.name.toArray⟩, .slice a1 t.kids.length cp1] 37) = W at *
    clear hk
    go_loopw [5] (fun i wr => ∃ j : Nat, i = .int .i64 j ∧ j ≤ t.kids.length ∧ Hid (∀ q x, q < j → t.kids[q]? = some x → hasT k x = false) ∧ Chg Nob W wr) (fun i _ => t.kids.length - (intOf i).toNat)
    case atStart => exact ⟨0, rfl, Nat.zero_le _, fun q t h => absurd h (Nat.not_lt_zero q), Chg.refl _ _⟩
    case round =>
      obtain ⟨j, rfl, hj, hall, hc⟩ := hrel
      have d2 := cell_row (hc.at Hb1.out (fun e => e)) 2 (v := .slice a1 t.kids.length cp1) rfl
      by_cases hlt : j < t.kids.length
      · obtain ⟨x, hx⟩ : ∃ x, t.kids[j]? = some x := ⟨_, List.getElem?_eq_getElem hlt⟩
        obtain ⟨b1, o1, ak1, cap1, hao1, _, p0, p1, p2, _, _, htr1⟩ := Hk1.out.kid hx
        have hcc := hcW.trans1 hc
        have p0' := hcc.cell' p0 (fun e => e)
        have p1' := hcc.cell' p1 (fun e => e)
        have p2' := hcc.cell' p2 (fun e => e)
        have hcall := Ih.out x (List.mem_of_getElem? hx) R _ wr (htr1.nob hcc)
        have hki : (j : Int) < (t.kids.length : Int) := by omega
        have hk0 : (0 : Int) ≤ (j : Int) := by omega
        have Hx := Lib.hid hx
        clear p0 p1 p2 htr1 hx
        subst hao1
        go_wp2_with fail
        (with_reducible refine hcall.mono ?_)
        clear hcall p0' p1' p2' d2
        rintro e w5 ⟨rfl, hc5⟩
        cases hs : hasT k x with
        | false =>
          go_wp2_with fail
          go_roundw
          case rel => exact ⟨j + 1, by go_num, by omega, (show ∀ q x', q < j + 1 → t.kids[q]? = some x' → hasT k x' = false from fun q x' hq h1 => by
            by_cases e : q = j
            · subst e
              rw [Hx.out] at h1; cases h1
              exact hs
            · exact hall.out q x' (by omega) h1), hc.trans1 hc5⟩
          case measure => simp [intOf]; omega
        | true =>
          have Hr : Hid (hasT k t = true) := (show hasT k t = true by rw [hasT_eq, hasL_at Hx.out hs]; simp)
          go_wp2
          go_ret
          exact ⟨by rw [Hr.out]; rfl, hcc.trans1 hc5⟩
      · obtain rfl : j = t.kids.length := by omega
        have Hr : Hid (hasT k t = false) := (show hasT k t = false by rw [hasT_eq, Hk.out, hasL_no (fun q x hq => hall.out q x (List.getElem?_eq_some_iff.1 hq).1 hq)]; rfl)
        go_wp2
        go_ret
        exact ⟨by rw [Hr.out]; rfl, hcW.trans1 hc⟩
end Go.Proofs.Ytkgfdgfhpdhhaaa
