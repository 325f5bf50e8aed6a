/- Parts of the walks and of the plain theory: What alternate.Accepts asks on its way: the next place, whether a guard has a letter, whether a state has a run. Conditions: the rows lie in the world. -/
import Derived.Test.YtkgfdgfhpdhhaaaGreatU16
import Derived.Test.YtkgfdgfhpdhhaaaGreatU12
import Derived.Deep.DeepCutAuto
namespace Go.Proofs.YtkgfdgfhpdhhaaaGreat
open Go.ChangeShapes Go.WideShapes Go.RowKit
attribute [local go_sem] Oper.semAt_some
set_option maxRecDepth 100000 in
set_option maxHeartbeats 2000000 in
theorem anext_any {w : World} {wb lb : Nat} {ww : Option Addr} {n cw : Nat} {ap al : Option Addr} {np cp nl cl : Nat} (h1 : w.cell? ⟨wb, 0, none⟩ = some (.slice ww n cw)) (h2 : w.cell? ⟨lb, 0, none⟩ = some (.slice ap np cp)) (hn : n ≤ 10000) (i : Nat) (hi : i < n) :
    Calls Tryz.prog 33 #[.int .i64 (i : Int), .pointer (some ⟨wb, 0, none⟩), .pointer (some ⟨lb, 0, none⟩)] w fun e w' => e = .returned (.int .i64 (nextN np n i : Nat)) ∧ w' = w := by
  have _ := al; have _ := nl; have _ := cl
  go_enter Tryz.func33, Tryz.ntmps33
  by_cases h : i + 1 = n
  · have hi1 : (i : Int) + 1 = (n : Int) := by omega
    have e : nextN np n i = np := if_pos h
    rw [e]
    go_wp2_with fail
    go_ret
    exact ⟨rfl, rfl⟩
  · have hi1 : ¬ (i : Int) + 1 = (n : Int) := by omega
    have hi2 : ((i : Int) + 1 == (n : Int)) = false := beq_eq_false_iff_ne.2 hi1
    have hi3 : decide ((i : Int) + 1 = (n : Int)) = false := decide_eq_false hi1
    have e : nextN np n i = i + 1 := if_neg h
    rw [e]
    go_wp2_with fail
    go_ret
    exact ⟨by rw [Int.natCast_add]; rfl, rfl⟩
def hasI (yes no x : Int) : Bool := (bits .and .u64 x yes == yes) && (bits .and .u64 x no == 0)
set_option maxRecDepth 100000 in
set_option maxHeartbeats 2000000 in
theorem ahas_any (w : World) (yes no x : Int) : Calls Tryz.prog 36 #[.agg #[.int .u64 yes, .int .u64 no], .int .u64 x] w fun e w' => e = .returned (.bool (hasI yes no x)) ∧ Chg Nob w w' := by
  obtain ⟨X, hX, hcX, hb, _⟩ := box_cells w #[.int .u64 yes, .int .u64 no] 72
  obtain ⟨c0, c1, _⟩ := cell_two hb
  rw [hX] at c0 c1
  obtain ⟨y, hy⟩ : ∃ y, bits .and .u64 x yes = y := ⟨_, rfl⟩
  obtain ⟨z, hz⟩ : ∃ z, bits .and .u64 x no = z := ⟨_, rfl⟩
  have e : hasI yes no x = ((y == yes) && (z == 0)) := by unfold hasI; rw [hy, hz]
  rw [e]
  go_enter Tryz.func36, Tryz.ntmps36
  cases h1 : (y == yes) with
  | true =>
    go_wp2_with fail
    go_ret
    exact ⟨rfl, by rw [← hX]; exact hcX⟩
  | false =>
    go_wp2_with fail
    go_ret
    exact ⟨rfl, by rw [← hX]; exact hcX⟩
theorem getDb_some {A : List Bool} {i : Nat} (h : i < A.length) : A[i]? = some (A.getD i false) := by rw [List.getD_eq_getElem?_getD, List.getElem?_eq_getElem h]; rfl
structure RunsW (W : World) (rb gr ns : Nat) (gs : List Nat) (rows : List (List Bool)) (n : Nat) : Prop where
  box : W.cell? ⟨rb, 0, none⟩ = some (.slice (some ⟨gr, 0, none⟩) ns ns)
  len : gs.length = rows.length
  le : rows.length ≤ ns
  row : ∀ (k g : Nat) (r : List Bool), gs[k]? = some g → rows[k]? = some r → W.cell? ⟨gr, k, none⟩ = some (.slice (some ⟨g, 0, none⟩) n n) ∧ BBlk W g r ∧ r.length = n
theorem RunsW.nob {W W' : World} {rb gr ns : Nat} {gs : List Nat} {rows : List (List Bool)} {n : Nat} (h : RunsW W rb gr ns gs rows n) (hc : Chg Nob W W') : RunsW W' rb gr ns gs rows n :=
  ⟨hc.cell' h.box (fun e => e), h.len, h.le, fun k g r h1 h2 => by
    obtain ⟨a, b, c⟩ := h.row k g r h1 h2
    exact ⟨hc.cell' a (fun e => e), b.chg hc (fun e => e), c⟩⟩
theorem RunsW.at {W : World} {rb gr ns : Nat} {gs : List Nat} {rows : List (List Bool)} {n : Nat} (h : RunsW W rb gr ns gs rows n) {k : Nat} (hk : k < rows.length) : ∃ g, W.cell? ⟨gr, k, none⟩ = some (.slice (some ⟨g, 0, none⟩) n n) ∧ BBlk W g (rows.getD k []) ∧ (rows.getD k []).length = n := by
  have hg : k < gs.length := by rw [h.len]; exact hk
  obtain ⟨a, b, c⟩ := h.row k gs[k] (rows.getD k []) (List.getElem?_eq_getElem hg) (by rw [List.getD_eq_getElem?_getD, List.getElem?_eq_getElem hk]; rfl)
  exact ⟨_, a, b, c⟩
section
variable {w : World} {rb gr ns n : Nat} {gs : List Nat} {rows : List (List Bool)}
set_option maxRecDepth 100000 in
set_option maxHeartbeats 2000000 in
theorem arun0_any (h : RunsW w rb gr ns gs rows n) (_hns : ns ≤ 10000) (hn : 0 < n) (hn2 : n ≤ 10000) (k : Nat) (hk : k < rows.length) : Calls Tryz.prog 41 #[.int .i64 (k : Int), .pointer (some ⟨rb, 0, none⟩)] w fun e w' => e = .returned (.bool (!((rows.getD k []).getD 0 false))) ∧ Chg Nob w w' := by
  obtain ⟨g, hc, hb, hl⟩ := h.at hk
  have hbox := h.box
  have hcell := hb.cell (j := 0) (x := (rows.getD k []).getD 0 false) (getDb_some (by omega))
  have hki : (k : Int) < (ns : Int) := by have := h.le; omega
  have hk0 : (0 : Int) ≤ (k : Int) := by omega
  have hni : (0 : Int) < (n : Int) := by omega
  obtain ⟨x, hx⟩ : ∃ x, x = (rows.getD k []).getD 0 false := ⟨_, rfl⟩
  rw [← hx] at hcell ⊢
  clear h hb hl hx hk
  go_enter Tryz.func41, Tryz.ntmps41
  go_wp2_with fail
  go_ret
  exact ⟨rfl, Chg.refl _ _⟩
def allR (rows : List (List Bool)) (l : List Int) (i : Nat) : Bool := !(l.any fun k => !((rows.getD k.toNat []).getD i false))
set_option maxRecDepth 100000 in
set_option maxHeartbeats 2000000 in
theorem aall0_any {at' : Option Addr} {ct : Nat} {l : List Int} (h : RunsW w rb gr ns gs rows n) (hns : ns ≤ 10000) (hn : 0 < n) (hn2 : n ≤ 10000) (hl : IRow w at' l) (hll : l.length ≤ 2000000) (hk : ∀ x ∈ l, 0 ≤ x ∧ x < (rows.length : Int)) : Calls Tryz.prog 40 #[.slice at' l.length ct, .pointer (some ⟨rb, 0, none⟩)] w fun e w' => e = .returned (.bool (allR rows l 0)) ∧ Chg Nob w w' := by
  have hp := contains_ints (c := ct) (k := 41) (caps := #[.pointer (some ⟨rb, 0, none⟩)]) (s := fun k => !((rows.getD k.toNat []).getD 0 false)) hll hl (enters_of Tryz.func41 (by kernel_rfl) rfl) (fun i x hx W hW => by
    obtain ⟨h0, h1⟩ := hk x (List.mem_of_getElem? hx)
    obtain ⟨m, rfl⟩ : ∃ m : Nat, x = (m : Int) := ⟨x.toNat, by omega⟩
    rw [Int.toNat_natCast]
    exact arun0_any (h.nob hW) hns hn hn2 m (by omega))
  clear h hl hk
  go_enter Tryz.func40, Tryz.ntmps40
  go_wp2_with fail
  (with_reducible refine hp.mono ?_)
  clear hp
  rintro e w' ⟨rfl, hc⟩
  go_wp2_with fail
  go_ret
  exact ⟨rfl, hc⟩
structure AccW (W : World) (wb lb nb ib : Nat) (ww : Option Addr) (cw : Nat) (M : List Int) (ap : Option Addr) (np cp : Nat) (i : Nat) : Prop where
  word : W.cell? ⟨wb, 0, none⟩ = some (.slice ww M.length cw)
  las : W.cell? ⟨lb, 0, none⟩ = some (.slice ap np cp)
  next : W.cell? ⟨nb, 0, none⟩ = some (.func (.func 33) #[] #[.pointer (some ⟨wb, 0, none⟩), .pointer (some ⟨lb, 0, none⟩)])
  place : W.cell? ⟨ib, 0, none⟩ = some (.int .i64 (i : Int))
  letters : URow W ww M
theorem AccW.nob {W W' : World} {wb lb nb ib : Nat} {ww : Option Addr} {cw : Nat} {M : List Int} {ap : Option Addr} {np cp i : Nat} (h : AccW W wb lb nb ib ww cw M ap np cp i) (hc : Chg Nob W W') : AccW W' wb lb nb ib ww cw M ap np cp i :=
  ⟨hc.cell' h.word (fun e => e), hc.cell' h.las (fun e => e), hc.cell' h.next (fun e => e), hc.cell' h.place (fun e => e), h.letters.nob hc⟩
variable {wb lb nb ib : Nat} {ww : Option Addr} {cw : Nat} {M : List Int} {ap : Option Addr} {np cp i : Nat}
set_option maxRecDepth 100000 in
set_option maxHeartbeats 4000000 in
theorem arun_any (h : RunsW w rb gr ns gs rows M.length) (hA : AccW w wb lb nb ib ww cw M ap np cp i) (_hns : ns ≤ 10000) (hM : M.length ≤ 10000) (hi : i < M.length) (hnp : np < M.length) (k : Nat) (hk : k < rows.length) :
    Calls Tryz.prog 38 #[.int .i64 (k : Int), .pointer (some ⟨rb, 0, none⟩), .pointer (some ⟨nb, 0, none⟩), .pointer (some ⟨ib, 0, none⟩)] w fun e w' => e = .returned (.bool (!((rows.getD k []).getD (nextN np M.length i) false))) ∧ Chg Nob w w' := by
  obtain ⟨g, hc, hb, hl⟩ := h.at hk
  have hbox := h.box
  obtain ⟨j, hj⟩ : ∃ j, j = nextN np M.length i := ⟨_, rfl⟩
  have hjl : j < M.length := by rw [hj]; unfold nextN; split <;> omega
  rw [← hj]
  have hcell := hb.cell (j := j) (x := (rows.getD k []).getD j false) (getDb_some (by omega))
  have hki : (k : Int) < (ns : Int) := by have := h.le; omega
  have hk0 : (0 : Int) ≤ (k : Int) := by omega
  have hji : (j : Int) < (M.length : Int) := by omega
  have hj0 : (0 : Int) ≤ (j : Int) := by omega
  obtain ⟨x, hx⟩ : ∃ x, x = (rows.getD k []).getD j false := ⟨_, rfl⟩
  rw [← hx] at hcell ⊢
  have hp : ∀ W, Chg Nob w W → Calls Tryz.prog 33 #[.int .i64 (i : Int), .pointer (some ⟨wb, 0, none⟩), .pointer (some ⟨lb, 0, none⟩)] W fun e w' => e = .returned (.int .i64 (j : Int)) ∧ w' = W := fun W hW => by
    rw [hj]; exact anext_any (al := none) (nl := 0) (cl := 0) (hW.cell' hA.word (fun e => e)) (hW.cell' hA.las (fun e => e)) hM i hi
  have Hp := Lib.hid hp
  have e0 := hA.next
  have e1 := hA.place
  have HS : Hid (∀ w', Chg Nob w w' → w'.cell? ⟨rb, 0, none⟩ = some (.slice (some ⟨gr, 0, none⟩) ns ns) ∧ w'.cell? ⟨gr, k, none⟩ = some (.slice (some ⟨g, 0, none⟩) M.length M.length) ∧ w'.cell? ⟨g, j, none⟩ = some (.bool x) ∧ w'.cell? ⟨nb, 0, none⟩ = some (.func (.func 33) #[] #[.pointer (some ⟨wb, 0, none⟩), .pointer (some ⟨lb, 0, none⟩)]) ∧ w'.cell? ⟨ib, 0, none⟩ = some (.int .i64 (i : Int))) := (show ∀ w', Chg Nob w w' → w'.cell? ⟨rb, 0, none⟩ = some (.slice (some ⟨gr, 0, none⟩) ns ns) ∧ w'.cell? ⟨gr, k, none⟩ = some (.slice (some ⟨g, 0, none⟩) M.length M.length) ∧ w'.cell? ⟨g, j, none⟩ = some (.bool x) ∧ w'.cell? ⟨nb, 0, none⟩ = some (.func (.func 33) #[] #[.pointer (some ⟨wb, 0, none⟩), .pointer (some ⟨lb, 0, none⟩)]) ∧ w'.cell? ⟨ib, 0, none⟩ = some (.int .i64 (i : Int)) from fun w' hh => ⟨hh.cell' hbox (fun e => e), hh.cell' hc (fun e => e), hh.cell' hcell (fun e => e), hh.cell' e0 (fun e => e), hh.cell' e1 (fun e => e)⟩)
  clear h hb hl hx hk hp hA hj hjl
  go_enter Tryz.func38, Tryz.ntmps38
  go_wp2_with fail
  refine wp_region_free (fun _ => true) (fun w' => w'.cell? ⟨rb, 0, none⟩ = some (.slice (some ⟨gr, 0, none⟩) ns ns) ∧ w'.cell? ⟨gr, k, none⟩ = some (.slice (some ⟨g, 0, none⟩) M.length M.length) ∧ w'.cell? ⟨g, j, none⟩ = some (.bool x) ∧ w'.cell? ⟨nb, 0, none⟩ = some (.func (.func 33) #[] #[.pointer (some ⟨wb, 0, none⟩), .pointer (some ⟨lb, 0, none⟩)]) ∧ w'.cell? ⟨ib, 0, none⟩ = some (.int .i64 (i : Int))) (by kernel_rfl) ⟨hbox, hc, hcell, e0, e1⟩ (fun hHeld => ?_)
  refine wpAnyG_take (i := 0) (v := ?_) rfl (by kernel_rfl) (fun _ _ _ h => h) (Or.inl ⟨by rfl, ?_⟩) hHeld ?_
  rotate_left
  · intro w hSw; obtain ⟨hbox, hc, hcell, e0, e1⟩ := hSw; go_simp; (try (with_reducible rfl))
  simp only [Act.put, List.setIfInBounds_toArray]
  refine wpAnyG_take (i := 1) (v := ?_) rfl (by kernel_rfl) (fun _ _ _ h => h) (Or.inl ⟨by rfl, ?_⟩) hHeld ?_
  rotate_left
  · intro w hSw; obtain ⟨hbox, hc, hcell, e0, e1⟩ := hSw; go_simp; (try (with_reducible rfl))
  try simp only [Act.put]
  refine wpAnyG_take (i := 2) (v := ?_) rfl (by kernel_rfl) (fun _ _ _ h => h) (Or.inl ⟨by rfl, ?_⟩) hHeld ?_
  rotate_left
  · intro w hSw; obtain ⟨hbox, hc, hcell, e0, e1⟩ := hSw; go_simp; (try (with_reducible rfl))
  try simp only [Act.put]
  refine wpAnyG_take (i := 3) (v := ?_) rfl (by kernel_rfl) (fun _ _ _ h => h) (Or.inl ⟨by rfl, ?_⟩) hHeld ?_
  rotate_left
  · intro w hSw; obtain ⟨hbox, hc, hcell, e0, e1⟩ := hSw; go_simp; (try (with_reducible rfl))
  try simp only [Act.put]
  refine wpAnyG_take (i := 4) (v := ?_) rfl (by kernel_rfl) (fun _ _ _ h => h) (Or.inl ⟨by kernel_rfl, ?_⟩) hHeld ?_
  rotate_left
  · intro w hSw; obtain ⟨hbox, hc, hcell, e0, e1⟩ := hSw; go_simp; (try (with_reducible rfl))
  try simp only [Act.put]
  refine wpAnyG_take (i := 5) (v := ?_) rfl (by kernel_rfl) (fun _ _ _ h => h) (Or.inl ⟨by kernel_rfl, ?_⟩) hHeld ?_
  rotate_left
  · intro w hSw; obtain ⟨hbox, hc, hcell, e0, e1⟩ := hSw; go_simp; (try (with_reducible rfl))
  try simp only [Act.put]
  refine wpAnyG_ready (rs := [6]) (by kernel_rfl) (by simp) ?_
  refine AllReadyG.cons rfl (fun K hK => ?_) AllReadyG.nil
  rw [if_pos (by kernel_rfl)]
  go_simp
  (with_reducible refine (Hp.out _ (((Chg.refl Nob w).drew))).mono ?_)
  rintro e v1 ⟨rfl, hc5⟩
  have Hv1 : Hid (Chg Nob w v1) := (show Chg Nob w v1 from hc5 ▸ (((Chg.refl Nob w).drew)))
  clear hc5
  refine hK.out _ _ (fun _ => HS.out _ Hv1.out) ?_
  clear hK K
  try simp only [Act.put]
  refine wpAnyG_take (i := 7) (v := ?_) rfl (by kernel_rfl) (fun _ _ _ h => h) (Or.inl ⟨by kernel_rfl, ?_⟩) (HS.out _ Hv1.out) ?_
  rotate_left
  · intro w hSw; obtain ⟨hbox, hc, hcell, e0, e1⟩ := hSw; go_simp; (try (with_reducible rfl))
  try simp only [Act.put]
  refine wpAnyG_take (i := 8) (v := ?_) rfl (by kernel_rfl) (fun _ _ _ h => h) (Or.inl ⟨by kernel_rfl, ?_⟩) (HS.out _ Hv1.out) ?_
  rotate_left
  · intro w hSw; obtain ⟨hbox, hc, hcell, e0, e1⟩ := hSw; go_simp; (try (with_reducible rfl))
  try simp only [Act.put]
  refine wpAnyG_take (i := 9) (v := ?_) rfl (by kernel_rfl) (fun _ _ _ h => h) (Or.inl ⟨by kernel_rfl, ?_⟩) (HS.out _ Hv1.out) ?_
  rotate_left
  · intro w hSw; obtain ⟨hbox, hc, hcell, e0, e1⟩ := hSw; go_simp; (try (with_reducible rfl))
  try simp only [Act.put]
  refine wpAnyG_take (i := 10) (v := ?_) rfl (by kernel_rfl) (fun _ _ _ h => h) (Or.inl ⟨by kernel_rfl, ?_⟩) (HS.out _ Hv1.out) ?_
  rotate_left
  · intro w hSw; obtain ⟨hbox, hc, hcell, e0, e1⟩ := hSw; go_simp; (try (with_reducible rfl))
  try simp only [Act.put]
  refine wpAnyG_done (by kernel_rfl) ?_ _
  go_simp
  go_wp2_with fail
  go_ret
  exact ⟨rfl, Hv1.out⟩
set_option maxRecDepth 100000 in
set_option maxHeartbeats 4000000 in
theorem amove_any {at' : Option Addr} {ct : Nat} {m : Mvi} (h : RunsW w rb gr ns gs rows M.length) (hA : AccW w wb lb nb ib ww cw M ap np cp i) (hns : ns ≤ 10000) (hM : M.length ≤ 10000) (hi : i < M.length) (hnp : np < M.length) (hl : IRow w at' m.to) (hll : m.to.length ≤ 2000000) (hk : ∀ x ∈ m.to, 0 ≤ x ∧ x < (rows.length : Int)) :
    Calls Tryz.prog 35 #[.agg #[.int .u64 m.yes, .int .u64 m.no, .slice at' m.to.length ct], .pointer (some ⟨wb, 0, none⟩), .pointer (some ⟨ib, 0, none⟩), .pointer (some ⟨rb, 0, none⟩), .pointer (some ⟨nb, 0, none⟩)] w fun e w' => e = .returned (.bool (hasI m.yes m.no (M.getD i 0) && allR rows m.to (nextN np M.length i))) ∧ Chg Nob w w' := by
  obtain ⟨X, hX, hcX, hbX, hsX⟩ := box_cells w #[.int .u64 m.yes, .int .u64 m.no, .slice at' m.to.length ct] 75
  obtain ⟨x, hx⟩ : ∃ x, M[i]? = some x := ⟨_, List.getElem?_eq_getElem hi⟩
  have hxd : M.getD i 0 = x := by rw [List.getD_eq_getElem?_getD, hx]; rfl
  rw [hxd]
  obtain ⟨aw, rfl, hxc⟩ := hA.letters i x hx
  obtain ⟨g0, g1, g2, _⟩ := cells_three hbX
  have hii : (i : Int) < (M.length : Int) := by omega
  have hi0 : (0 : Int) ≤ (i : Int) := by omega
  have hp1 : ∀ W, Calls Tryz.prog 36 #[.agg #[.int .u64 m.yes, .int .u64 m.no], .int .u64 x] W fun e w' => e = .returned (.bool (hasI m.yes m.no x)) ∧ Chg Nob W w' := fun W => ahas_any W m.yes m.no x
  have hp2 : ∀ W, Chg Nob w W → Calls Tryz.prog 37 #[.slice at' m.to.length ct, .func (.func 38) #[] #[.pointer (some ⟨rb, 0, none⟩), .pointer (some ⟨nb, 0, none⟩), .pointer (some ⟨ib, 0, none⟩)]] W fun e w' => e = .returned (.bool (m.to.any fun k => !((rows.getD k.toNat []).getD (nextN np M.length i) false))) ∧ Chg Nob W w' := fun W hW =>
    contains_ints (c := ct) (k := 38) (caps := #[.pointer (some ⟨rb, 0, none⟩), .pointer (some ⟨nb, 0, none⟩), .pointer (some ⟨ib, 0, none⟩)]) (s := fun k => !((rows.getD k.toNat []).getD (nextN np M.length i) false)) hll (hl.nob hW) (enters_of Tryz.func38 (by kernel_rfl) rfl) (fun j x hx V hV => by
      obtain ⟨h0, h1⟩ := hk x (List.mem_of_getElem? hx)
      obtain ⟨q, rfl⟩ : ∃ q : Nat, x = (q : Int) := ⟨x.toNat, by omega⟩
      rw [Int.toNat_natCast]
      exact arun_any (h.nob (hW.trans1 hV)) (hA.nob (hW.trans1 hV)) hns hM hi hnp q (by omega))
  have Hp1 := Lib.hid hp1
  have Hp2 := Lib.hid hp2
  have HcX := Lib.hid hcX
  have HS : Hid (∀ w', Chg Nob X w' → w'.cell? ⟨w.heap.size, 0, none⟩ = some (.int .u64 m.yes) ∧ w'.cell? ⟨w.heap.size, 1, none⟩ = some (.int .u64 m.no) ∧ w'.cell? ⟨w.heap.size, 2, none⟩ = some (.slice at' m.to.length ct) ∧ w'.cell? ⟨wb, 0, none⟩ = some (.slice (some aw) M.length cw) ∧ w'.cell? ⟨ib, 0, none⟩ = some (.int .i64 (i : Int)) ∧ w'.cell? (aw.add i) = some (.int .u64 x)) := (show ∀ w', Chg Nob X w' → w'.cell? ⟨w.heap.size, 0, none⟩ = some (.int .u64 m.yes) ∧ w'.cell? ⟨w.heap.size, 1, none⟩ = some (.int .u64 m.no) ∧ w'.cell? ⟨w.heap.size, 2, none⟩ = some (.slice at' m.to.length ct) ∧ w'.cell? ⟨wb, 0, none⟩ = some (.slice (some aw) M.length cw) ∧ w'.cell? ⟨ib, 0, none⟩ = some (.int .i64 (i : Int)) ∧ w'.cell? (aw.add i) = some (.int .u64 x) from fun w' hh => ⟨hh.cell' g0 (fun e => e), hh.cell' g1 (fun e => e), hh.cell' g2 (fun e => e), (hcX.trans1 hh).cell' hA.word (fun e => e), (hcX.trans1 hh).cell' hA.place (fun e => e), (hcX.trans1 hh).cell' hxc (fun e => e)⟩)
  clear h hA hl hk hp1 hp2 hx hxd hxc hbX g0 g1 g2 hcX hsX
  go_enter Tryz.func35, Tryz.ntmps35
  go_wp2_with fail
  rw [← hX]
  clear hX
  obtain ⟨g0, g1, g2, e0, e1, e2⟩ := HS.out X (Chg.refl _ _)
  cases hh : hasI m.yes m.no x with
  | true =>
    rw [hh] at Hp1
    refine wp_region_free (fun _ => true) (fun w' => w'.cell? ⟨w.heap.size, 0, none⟩ = some (.int .u64 m.yes) ∧ w'.cell? ⟨w.heap.size, 1, none⟩ = some (.int .u64 m.no) ∧ w'.cell? ⟨w.heap.size, 2, none⟩ = some (.slice at' m.to.length ct) ∧ w'.cell? ⟨wb, 0, none⟩ = some (.slice (some aw) M.length cw) ∧ w'.cell? ⟨ib, 0, none⟩ = some (.int .i64 (i : Int)) ∧ w'.cell? (aw.add i) = some (.int .u64 x)) (by kernel_rfl) ⟨g0, g1, g2, e0, e1, e2⟩ (fun hHeld => ?_)
    refine wpAnyG_take (i := 0) (v := ?_) rfl (by kernel_rfl) (fun _ _ _ h => h) (Or.inl ⟨by rfl, ?_⟩) hHeld ?_
    rotate_left
    · intro w hSw; obtain ⟨g0, g1, g2, e0, e1, e2⟩ := hSw; go_simp; (try (with_reducible rfl))
    simp only [Act.put, List.setIfInBounds_toArray]
    refine wpAnyG_take (i := 1) (v := ?_) rfl (by kernel_rfl) (fun _ _ _ h => h) (Or.inl ⟨by rfl, ?_⟩) hHeld ?_
    rotate_left
    · intro w hSw; obtain ⟨g0, g1, g2, e0, e1, e2⟩ := hSw; go_simp; (try (with_reducible rfl))
    try simp only [Act.put]
    refine wpAnyG_take (i := 2) (v := ?_) rfl (by kernel_rfl) (fun _ _ _ h => h) (Or.inl ⟨by rfl, ?_⟩) hHeld ?_
    rotate_left
    · intro w hSw; obtain ⟨g0, g1, g2, e0, e1, e2⟩ := hSw; go_simp; (try (with_reducible rfl))
    try simp only [Act.put]
    refine wpAnyG_take (i := 3) (v := ?_) rfl (by kernel_rfl) (fun _ _ _ h => h) (Or.inl ⟨by rfl, ?_⟩) hHeld ?_
    rotate_left
    · intro w hSw; obtain ⟨g0, g1, g2, e0, e1, e2⟩ := hSw; go_simp; (try (with_reducible rfl))
    try simp only [Act.put]
    refine wpAnyG_take (i := 4) (v := ?_) rfl (by kernel_rfl) (fun _ _ _ h => h) (Or.inl ⟨by kernel_rfl, ?_⟩) hHeld ?_
    rotate_left
    · intro w hSw; obtain ⟨g0, g1, g2, e0, e1, e2⟩ := hSw; go_simp; (try (with_reducible rfl))
    try simp only [Act.put]
    refine wpAnyG_take (i := 5) (v := ?_) rfl (by kernel_rfl) (fun _ _ _ h => h) (Or.inl ⟨by kernel_rfl, ?_⟩) hHeld ?_
    rotate_left
    · intro w hSw; obtain ⟨g0, g1, g2, e0, e1, e2⟩ := hSw; go_simp; (try (with_reducible rfl))
    try simp only [Act.put]
    refine wpAnyG_ready (rs := [6]) (by kernel_rfl) (by simp) ?_
    refine AllReadyG.cons rfl (fun K hK => ?_) AllReadyG.nil
    rw [if_pos (by kernel_rfl)]
    go_simp
    (with_reducible refine (Hp1.out _).mono ?_)
    rintro e v1 ⟨rfl, hc5⟩
    have Hv1 : Hid (Chg Nob X v1) := (show Chg Nob X v1 from (((Chg.refl Nob X).drew)).trans1 hc5)
    clear hc5
    refine hK.out _ _ (fun _ => HS.out _ Hv1.out) ?_
    clear hK K
    try simp only [Act.put]
    refine wpAnyG_take (i := 7) (v := ?_) rfl (by kernel_rfl) (fun _ _ _ h => h) (Or.inl ⟨by kernel_rfl, ?_⟩) (HS.out _ Hv1.out) ?_
    rotate_left
    · intro w hSw; obtain ⟨g0, g1, g2, e0, e1, e2⟩ := hSw; go_simp; (try (with_reducible rfl))
    try simp only [Act.put]
    refine wpAnyG_take (i := 8) (v := ?_) rfl (by kernel_rfl) (fun _ _ _ h => h) (Or.inl ⟨by kernel_rfl, ?_⟩) (HS.out _ Hv1.out) ?_
    rotate_left
    · intro w hSw; obtain ⟨g0, g1, g2, e0, e1, e2⟩ := hSw; go_simp; (try (with_reducible rfl))
    try simp only [Act.put]
    refine wpAnyG_take (i := 9) (v := ?_) rfl (by kernel_rfl) (fun _ _ _ h => h) (Or.inl ⟨by kernel_rfl, ?_⟩) (HS.out _ Hv1.out) ?_
    rotate_left
    · intro w hSw; obtain ⟨g0, g1, g2, e0, e1, e2⟩ := hSw; go_simp; (try (with_reducible rfl))
    try simp only [Act.put]
    refine wpAnyG_take (i := 10) (v := ?_) rfl (by kernel_rfl) (fun _ _ _ h => h) (Or.inl ⟨by kernel_rfl, ?_⟩) (HS.out _ Hv1.out) ?_
    rotate_left
    · intro w hSw; obtain ⟨g0, g1, g2, e0, e1, e2⟩ := hSw; go_simp; (try (with_reducible rfl))
    try simp only [Act.put]
    refine wpAnyG_ready (rs := [11]) (by kernel_rfl) (by simp) ?_
    refine AllReadyG.cons rfl (fun K hK => ?_) AllReadyG.nil
    rw [if_pos (by kernel_rfl)]
    go_simp
    (with_reducible refine (Hp2.out _ (HcX.out.trans1 Hv1.out)).mono ?_)
    rintro e v2 ⟨rfl, hc5⟩
    have Hv2 : Hid (Chg Nob X v2) := (show Chg Nob X v2 from (Hv1.out).trans1 hc5)
    clear hc5
    refine hK.out _ _ (fun _ => HS.out _ Hv2.out) ?_
    clear hK K
    try simp only [Act.put]
    refine wpAnyG_take (i := 12) (v := ?_) rfl (by kernel_rfl) (fun _ _ _ h => h) (Or.inl ⟨by kernel_rfl, ?_⟩) (HS.out _ Hv2.out) ?_
    rotate_left
    · intro w hSw; obtain ⟨g0, g1, g2, e0, e1, e2⟩ := hSw; go_simp; (try (with_reducible rfl))
    try simp only [Act.put]
    refine wpAnyG_take (i := 13) (v := ?_) rfl (by kernel_rfl) (fun _ _ _ h => h) (Or.inl ⟨by kernel_rfl, ?_⟩) (HS.out _ Hv2.out) ?_
    rotate_left
    · intro w hSw; obtain ⟨g0, g1, g2, e0, e1, e2⟩ := hSw; go_simp; (try (with_reducible rfl))
    try simp only [Act.put]
    refine wpAnyG_take (i := 14) (v := ?_) rfl (by kernel_rfl) (fun _ _ _ h => h) (Or.inl ⟨by kernel_rfl, ?_⟩) (HS.out _ Hv2.out) ?_
    rotate_left
    · intro w hSw; obtain ⟨g0, g1, g2, e0, e1, e2⟩ := hSw; go_simp; (try (with_reducible rfl))
    try simp only [Act.put]
    refine wpAnyG_done (by kernel_rfl) ?_ _
    go_simp
    go_wp2_with fail
    go_ret
    exact ⟨by rw [hh]; rfl, HcX.out.trans1 Hv2.out⟩
  | false =>
    rw [hh] at Hp1
    refine wp_region_free (fun _ => true) (fun w' => w'.cell? ⟨w.heap.size, 0, none⟩ = some (.int .u64 m.yes) ∧ w'.cell? ⟨w.heap.size, 1, none⟩ = some (.int .u64 m.no) ∧ w'.cell? ⟨w.heap.size, 2, none⟩ = some (.slice at' m.to.length ct) ∧ w'.cell? ⟨wb, 0, none⟩ = some (.slice (some aw) M.length cw) ∧ w'.cell? ⟨ib, 0, none⟩ = some (.int .i64 (i : Int)) ∧ w'.cell? (aw.add i) = some (.int .u64 x)) (by kernel_rfl) ⟨g0, g1, g2, e0, e1, e2⟩ (fun hHeld => ?_)
    refine wpAnyG_take (i := 0) (v := ?_) rfl (by kernel_rfl) (fun _ _ _ h => h) (Or.inl ⟨by rfl, ?_⟩) hHeld ?_
    rotate_left
    · intro w hSw; obtain ⟨g0, g1, g2, e0, e1, e2⟩ := hSw; go_simp; (try (with_reducible rfl))
    simp only [Act.put, List.setIfInBounds_toArray]
    refine wpAnyG_take (i := 1) (v := ?_) rfl (by kernel_rfl) (fun _ _ _ h => h) (Or.inl ⟨by rfl, ?_⟩) hHeld ?_
    rotate_left
    · intro w hSw; obtain ⟨g0, g1, g2, e0, e1, e2⟩ := hSw; go_simp; (try (with_reducible rfl))
    try simp only [Act.put]
    refine wpAnyG_take (i := 2) (v := ?_) rfl (by kernel_rfl) (fun _ _ _ h => h) (Or.inl ⟨by rfl, ?_⟩) hHeld ?_
    rotate_left
    · intro w hSw; obtain ⟨g0, g1, g2, e0, e1, e2⟩ := hSw; go_simp; (try (with_reducible rfl))
    try simp only [Act.put]
    refine wpAnyG_take (i := 3) (v := ?_) rfl (by kernel_rfl) (fun _ _ _ h => h) (Or.inl ⟨by rfl, ?_⟩) hHeld ?_
    rotate_left
    · intro w hSw; obtain ⟨g0, g1, g2, e0, e1, e2⟩ := hSw; go_simp; (try (with_reducible rfl))
    try simp only [Act.put]
    refine wpAnyG_take (i := 4) (v := ?_) rfl (by kernel_rfl) (fun _ _ _ h => h) (Or.inl ⟨by kernel_rfl, ?_⟩) hHeld ?_
    rotate_left
    · intro w hSw; obtain ⟨g0, g1, g2, e0, e1, e2⟩ := hSw; go_simp; (try (with_reducible rfl))
    try simp only [Act.put]
    refine wpAnyG_take (i := 5) (v := ?_) rfl (by kernel_rfl) (fun _ _ _ h => h) (Or.inl ⟨by kernel_rfl, ?_⟩) hHeld ?_
    rotate_left
    · intro w hSw; obtain ⟨g0, g1, g2, e0, e1, e2⟩ := hSw; go_simp; (try (with_reducible rfl))
    try simp only [Act.put]
    refine wpAnyG_ready (rs := [6]) (by kernel_rfl) (by simp) ?_
    refine AllReadyG.cons rfl (fun K hK => ?_) AllReadyG.nil
    rw [if_pos (by kernel_rfl)]
    go_simp
    (with_reducible refine (Hp1.out _).mono ?_)
    rintro e v1 ⟨rfl, hc5⟩
    have Hv1 : Hid (Chg Nob X v1) := (show Chg Nob X v1 from (((Chg.refl Nob X).drew)).trans1 hc5)
    clear hc5
    refine hK.out _ _ (fun _ => HS.out _ Hv1.out) ?_
    clear hK K
    try simp only [Act.put]
    refine wpAnyG_take (i := 7) (v := ?_) rfl (by kernel_rfl) (fun _ _ _ h => h) (Or.inl ⟨by kernel_rfl, ?_⟩) (HS.out _ Hv1.out) ?_
    rotate_left
    · intro w hSw; obtain ⟨g0, g1, g2, e0, e1, e2⟩ := hSw; go_simp; (try (with_reducible rfl))
    try simp only [Act.put]
    refine wpAnyG_take (i := 8) (v := undef) rfl (by kernel_rfl) (fun _ _ _ h => h) (Or.inr ⟨by kernel_rfl, rfl⟩) (HS.out _ Hv1.out) ?_
    try simp only [Act.put]
    refine wpAnyG_take (i := 9) (v := undef) rfl (by kernel_rfl) (fun _ _ _ h => h) (Or.inr ⟨by kernel_rfl, rfl⟩) (HS.out _ Hv1.out) ?_
    try simp only [Act.put]
    refine wpAnyG_take (i := 10) (v := undef) rfl (by kernel_rfl) (fun _ _ _ h => h) (Or.inr ⟨by kernel_rfl, rfl⟩) (HS.out _ Hv1.out) ?_
    try simp only [Act.put]
    refine wpAnyG_ready (rs := [11]) (by kernel_rfl) (by simp) ?_
    refine AllReadyG.cons rfl (fun K hK => ?_) AllReadyG.nil
    rw [if_neg (Bool.eq_false_iff.1 (by kernel_rfl))]
    refine hK.out _ _ (fun _ => (HS.out _ Hv1.out)) ?_
    clear hK K
    try simp only [Act.put]
    refine wpAnyG_take (i := 12) (v := undef) rfl (by kernel_rfl) (fun _ _ _ h => h) (Or.inr ⟨by kernel_rfl, rfl⟩) (HS.out _ Hv1.out) ?_
    try simp only [Act.put]
    refine wpAnyG_take (i := 13) (v := ?_) rfl (by kernel_rfl) (fun _ _ _ h => h) (Or.inl ⟨by kernel_rfl, ?_⟩) (HS.out _ Hv1.out) ?_
    rotate_left
    · intro w hSw; obtain ⟨g0, g1, g2, e0, e1, e2⟩ := hSw; go_simp; (try (with_reducible rfl))
    try simp only [Act.put]
    refine wpAnyG_take (i := 14) (v := ?_) rfl (by kernel_rfl) (fun _ _ _ h => h) (Or.inl ⟨by kernel_rfl, ?_⟩) (HS.out _ Hv1.out) ?_
    rotate_left
    · intro w hSw; obtain ⟨g0, g1, g2, e0, e1, e2⟩ := hSw; go_simp; (try (with_reducible rfl))
    try simp only [Act.put]
    refine wpAnyG_done (by kernel_rfl) ?_ _
    go_simp
    go_wp2_with fail
    go_ret
    exact ⟨by rw [hh]; rfl, HcX.out.trans1 Hv1.out⟩
end
end Go.Proofs.YtkgfdgfhpdhhaaaGreat
namespace Go.Proofs.YtkgfdgfhpdhhaaaGreat
open Go.ChangeShapes Go.WideShapes Go.RowKit
attribute [local go_sem] Oper.semAt_some
section
variable {ap al : Option Addr} {cp cl : Nat} {w : World}
set_option maxHeartbeats 400000000 in
theorem lcheckb_any (np nl : Nat) (hl : np + nl ≤ 4000000) : Calls Tryz.prog 31 #[.agg #[.slice ap np cp, .slice al nl cl]] w fun e w' => e = .returned (.int .i64 (lcheckN np nl)) ∧ Chg Nob w w' := by
  obtain ⟨X, hX, hcX, _, hb⟩ := box_two w (.slice ap np cp) (.slice al nl cl)
  obtain ⟨c0, c1, _⟩ := cell_two hb
  rw [hX] at c0 c1 hcX
  have HcX := Lib.hid hcX
  clear hb hcX hX
  by_cases h0 : nl = 0
  · subst h0
    have Hr : Hid (lcheckN np 0 = 100) := if_pos (.inl rfl)
    go_enter Tryz.func31, Tryz.ntmps31
    go_wp2
    go_ret
    exact ⟨by rw [Hr.out]; rfl, HcX.out⟩
  · have h0b : ((nl : Int) == 0) = false := by simpa using h0
    have h0i : ¬ (nl : Int) = 0 := by omega
    have hi : (np : Int) + (nl : Int) ≤ 4000000 := by omega
    by_cases hb : 4096 < np + nl
    · have hbi : 4096 < (np : Int) + (nl : Int) := by omega
      have Hr : Hid (lcheckN np nl = 100) := if_pos (.inr hb)
      clear hb h0
      go_enter Tryz.func31, Tryz.ntmps31
      go_wp2
      go_ret
      exact ⟨by rw [Hr.out]; rfl, HcX.out⟩
    · have hbi : ¬ 4096 < (np : Int) + (nl : Int) := by omega
      have Hr : Hid (lcheckN np nl = 0) := if_neg (by omega)
      clear hb h0
      go_enter Tryz.func31, Tryz.ntmps31
      go_wp2
      go_ret
      exact ⟨by rw [Hr.out]; rfl, HcX.out⟩
end
def updA (R : List (List Bool)) (ms : List Mvi) (M : List Int) (np : Nat) (l : List Bool) (j : Nat) : List Bool :=
  l.set j (ms.any fun m => hasI m.yes m.no (M.getD j 0) && allR (R ++ [l]) m.to (nextN np M.length j))
def sweepA (R : List (List Bool)) (ms : List Mvi) (M : List Int) (np : Nat) : Nat → List Bool → List Bool
  | 0, l => l
  | j + 1, l => sweepA R ms M np j (updA R ms M np l j)
def timesA (R : List (List Bool)) (ms : List Mvi) (M : List Int) (np : Nat) : Nat → List Bool → List Bool
  | 0, l => l
  | r + 1, l => timesA R ms M np r (sweepA R ms M np M.length l)
def rowI (R : List (List Bool)) (s : Sti) (M : List Int) (np : Nat) : List Bool := timesA R s.moves M np 2 (List.replicate M.length (!s.fin))
def rowsI (S : List Sti) (M : List Int) (np : Nat) : Nat → List (List Bool)
  | 0 => []
  | m + 1 => rowsI S M np m ++ [rowI (rowsI S M np m) (S.getD m s0) M np]
def accI (I : List (List Int)) (S : List Sti) (M : List Int) (np : Nat) : Bool := I.any fun l => allR (rowsI S M np S.length) l 0
theorem updA_len (R : List (List Bool)) (ms : List Mvi) (M : List Int) (np : Nat) (l : List Bool) (j : Nat) : (updA R ms M np l j).length = l.length := List.length_set
theorem sweepA_len (R : List (List Bool)) (ms : List Mvi) (M : List Int) (np : Nat) : ∀ (m : Nat) (l : List Bool), (sweepA R ms M np m l).length = l.length
  | 0, _ => rfl
  | m + 1, l => by rw [sweepA, sweepA_len R ms M np m, updA_len]
theorem rowI_len (R : List (List Bool)) (s : Sti) (M : List Int) (np : Nat) : (rowI R s M np).length = M.length := by
  unfold rowI timesA timesA timesA
  rw [sweepA_len, sweepA_len, List.length_replicate]
theorem rowsI_length (S : List Sti) (M : List Int) (np : Nat) : ∀ n, (rowsI S M np n).length = n
  | 0 => rfl
  | n + 1 => by rw [rowsI, List.length_append, rowsI_length S M np n]; rfl
theorem Tryz.info34z : (Tryz.prog.info? 34).map (fun i => (i.zero, i.size, i.bytes)) = some (some (.slice none 0 0), 1, 24) := by kernel_rfl
theorem make66 (n : Nat) (hn : n ≤ 10000) (w : World) : ∃ cs : Array Value, cs.size = n ∧ (Instr.makeSlice 66 (.int .i64 (n : Int)) (.int .i64 (n : Int))).run Tryz.prog w = .ok (.slice (some ⟨w.heap.size, 0, none⟩) n n) (w.alloc (.cells cs 34)) := by
  have h := Tryz.info34z
  cases hi : Tryz.prog.info? 34 with
  | none => rw [hi] at h; simp at h
  | some i =>
    rw [hi] at h
    simp at h
    have hr := run_makeSlice (P := Tryz.prog) (w := w) 66 34 i (.slice none 0 0) Tryz.underlying66 hi h.1 .i64 .i64 (n : Int) (n : Int) (by omega) (Int.le_refl _) (by rw [h.2.1]; simp; omega) (by rw [h.2.2]; omega) (by omega)
    rw [h.2.1, Int.toNat_natCast] at hr
    exact ⟨_, by simp [madeCells], hr⟩
def boxN (v : Value) (W : World) : Nat := match v with
  | .pointer (some a) => match W.cell? a with
    | some (.int _ z) => (z + 1).toNat
    | _ => 0
  | _ => 0
theorem boxN_eq {W : World} {ib : Nat} {k : IntKind} {z : Int} (h : W.cell? ⟨ib, 0, none⟩ = some (.int k z)) : boxN (.pointer (some ⟨ib, 0, none⟩)) W = (z + 1).toNat := by
  unfold boxN
  simp only [h]
structure RunsL (W Y : World) (rb gr ns : Nat) (gs : List Nat) (rows : List (List Bool)) (n : Nat) : Prop where
  chg : Chg Nob Y W
  above : Y.heap.size ≤ gr
  order : gr < rb
  box : W.cell? ⟨rb, 0, none⟩ = some (.slice (some ⟨gr, 0, none⟩) ns ns)
  blk : ∃ cs : Array Value, W.heap[gr]? = some (.cells cs 34 (0, 0)) ∧ cs.size = ns ∧ ∀ (k g : Nat), gs[k]? = some g → cs[k]? = some (.slice (some ⟨g, 0, none⟩) n n)
  len : gs.length = rows.length
  row : ∀ (k g : Nat) (r : List Bool), gs[k]? = some g → rows[k]? = some r → BBlk W g r ∧ rb < g ∧ r.length = n
theorem RunsL.nob {W W' Y : World} {rb gr ns : Nat} {gs : List Nat} {rows : List (List Bool)} {n : Nat} (h : RunsL W Y rb gr ns gs rows n) (hc : Chg Nob W W') : RunsL W' Y rb gr ns gs rows n :=
  ⟨h.chg.trans1 hc, h.above, h.order, hc.cell' h.box (fun e => e), by obtain ⟨cs, a, b, c⟩ := h.blk; exact ⟨cs, hc.at a (fun e => e), b, c⟩, h.len, fun k g r h1 h2 => by
    obtain ⟨a, b, c⟩ := h.row k g r h1 h2
    exact ⟨a.chg hc (fun e => e), b, c⟩⟩
theorem RunsL.runs {W Y : World} {rb gr ns : Nat} {gs : List Nat} {rows : List (List Bool)} {n : Nat} (h : RunsL W Y rb gr ns gs rows n) (hle : rows.length ≤ ns) : RunsW W rb gr ns gs rows n :=
  ⟨h.box, h.len, hle, fun k g r h1 h2 => by
    obtain ⟨cs, a, b, c⟩ := h.blk
    obtain ⟨x, y, z⟩ := h.row k g r h1 h2
    exact ⟨cell_row a k (c k g h1), x, z⟩⟩
theorem RunsL.push {W Y : World} {rb gr ns : Nat} {gs : List Nat} {rows : List (List Bool)} {n g : Nat} {l : List Bool} (h : RunsL W Y rb gr ns gs rows n) (hlt : rows.length < ns) (hb : BBlk W g l) (hg : rb < g) (hl : l.length = n) :
    (∃ v, W.cell? ⟨gr, rows.length, none⟩ = some v) ∧ W.frozen? ⟨gr, rows.length, none⟩ = false ∧ RunsL (W.setCell ⟨gr, rows.length, none⟩ (.slice (some ⟨g, 0, none⟩) n n)) Y rb gr ns (gs ++ [g]) (rows ++ [l]) n := by
  obtain ⟨cs, a, b, c⟩ := h.blk
  have hlen := h.len
  have hor := h.order
  have hab := h.above
  have hset : Chg (At1 gr) W (W.setCell ⟨gr, rows.length, none⟩ (.slice (some ⟨g, 0, none⟩) n n)) := (Chg.refl (At1 gr) W).setCell (p := ⟨gr, rows.length, none⟩) (fun _ => rfl) _
  have hlc : rows.length < cs.size := by omega
  refine ⟨⟨cs[rows.length], cell_row a _ (Array.getElem?_eq_getElem hlc)⟩, by simp [World.frozen?, a], ?_⟩
  refine ⟨h.chg.trans hset (fun i hi e => by have e : i = gr := e; omega), h.above, h.order, hset.cell' h.box (fun e => by have e : rb = gr := e; omega), ⟨cs.setIfInBounds rows.length (.slice (some ⟨g, 0, none⟩) n n), ?_, by simp [b], ?_⟩, by simp [hlen], ?_⟩
  · simp [World.setCell, Array.getElem?_modify, a]
  · intro k g' hk
    by_cases e : k = rows.length
    · subst e
      rw [← hlen, List.getElem?_append_right (Nat.le_refl _), Nat.sub_self] at hk
      obtain rfl : g = g' := by simpa using hk
      simp [hlc]
    · have hk2 : k < gs.length := by
        have := (List.getElem?_eq_some_iff.1 hk).1
        rw [List.length_append] at this
        simp only [List.length_cons, List.length_nil] at this
        omega
      rw [List.getElem?_append_left hk2] at hk
      rw [Array.getElem?_setIfInBounds, if_neg (fun h => e h.symm)]
      exact c k g' hk
  · intro k g' r hk hr
    by_cases e : k = rows.length
    · subst e
      rw [← hlen, List.getElem?_append_right (Nat.le_refl _), Nat.sub_self] at hk
      obtain rfl : g = g' := by simpa using hk
      rw [List.getElem?_append_right (Nat.le_refl _), Nat.sub_self] at hr
      obtain rfl : l = r := by simpa using hr
      exact ⟨hb.chg hset (fun e => by have e : g = gr := e; omega), hg, hl⟩
    · have hk2 : k < gs.length := by
        have := (List.getElem?_eq_some_iff.1 hk).1
        rw [List.length_append] at this
        simp only [List.length_cons, List.length_nil] at this
        omega
      rw [List.getElem?_append_left hk2] at hk
      rw [List.getElem?_append_left (by omega)] at hr
      obtain ⟨x, y, z⟩ := h.row k g' r hk hr
      exact ⟨x.chg hset (fun e => by have e : g' = gr := e; omega), y, z⟩
theorem RunsL.put {W Y : World} {rb gr ns : Nat} {gs : List Nat} {rows : List (List Bool)} {n g : Nat} {l : List Bool} (h : RunsL W Y rb gr ns (gs ++ [g]) (rows ++ [l]) n) (hfresh : ∀ (k g' : Nat), gs[k]? = some g' → g' ≠ g) (j : Nat) (x : Bool) :
    RunsL (W.setCell ⟨g, j, none⟩ (.bool x)) Y rb gr ns (gs ++ [g]) (rows ++ [l.set j x]) n := by
  have hlen : gs.length = rows.length := by have := h.len; simpa using this
  have hor := h.order
  have hab := h.above
  obtain ⟨hb, hg, hl⟩ := h.row rows.length g l (by rw [← hlen, List.getElem?_append_right (Nat.le_refl _), Nat.sub_self]; rfl) (by rw [List.getElem?_append_right (Nat.le_refl _), Nat.sub_self]; rfl)
  have hset : Chg (At1 g) W (W.setCell ⟨g, j, none⟩ (.bool x)) := (Chg.refl (At1 g) W).setCell (p := ⟨g, j, none⟩) (fun _ => rfl) _
  obtain ⟨cs, a, b, c⟩ := h.blk
  refine ⟨h.chg.trans hset (fun i hi e => by have e : i = g := e; omega), h.above, h.order, hset.cell' h.box (fun e => by have e : rb = g := e; omega), ⟨cs, hset.at a (fun e => by have e : gr = g := e; omega), b, c⟩, by simp [hlen], ?_⟩
  intro k g' r hk hr
  by_cases e : k = rows.length
  · subst e
    rw [← hlen, List.getElem?_append_right (Nat.le_refl _), Nat.sub_self] at hk
    obtain rfl : g = g' := by simpa using hk
    rw [List.getElem?_append_right (Nat.le_refl _), Nat.sub_self] at hr
    obtain rfl : l.set j x = r := by simpa using hr
    exact ⟨hb.set j x, hg, by rw [List.length_set]; exact hl⟩
  · have hk2 : k < gs.length := by
      have := (List.getElem?_eq_some_iff.1 hk).1
      rw [List.length_append] at this
      simp only [List.length_cons, List.length_nil] at this
      omega
    rw [List.getElem?_append_left (by omega)] at hr
    have hk3 := hk
    rw [List.getElem?_append_left hk2] at hk3
    obtain ⟨y1, y2, y3⟩ := h.row k g' r hk (by rw [List.getElem?_append_left (by omega)]; exact hr)
    exact ⟨y1.chg hset (fun e => hfresh k g' hk3 e), y2, y3⟩
end Go.Proofs.YtkgfdgfhpdhhaaaGreat
