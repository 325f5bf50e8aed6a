/- Rows of truths of a formula's kids; what where answers, told in lists. Conditions: as each theorem states. -/
import Derived.Test.YtkgfdgfhpdhhaaaGreatU12
import Derived.Test.YtkgfdgfhpdhhaaaGreatU02
namespace Go.Proofs.YtkgfdgfhpdhhaaaGreat
open Go.ChangeShapes Go.WideShapes Go.RowKit Go.Shelf
theorem Tryz.info34 : (Tryz.prog.info? 34).map (fun i => (i.zero, i.size, i.bytes)) = some (some (.slice none 0 0), 1, 24) := by kernel_rfl
theorem info116_parts : ∃ i, Tryz.prog.info? 34 = some i ∧ i.zero = some (.slice none 0 0) ∧ i.size = 1 ∧ i.bytes = 24 := by
  have h := Tryz.info34
  cases hi : Tryz.prog.info? 34 with
  | none => rw [hi] at h; simp at h
  | some i => rw [hi] at h; simp at h; exact ⟨i, rfl, h.1, h.2.1, h.2.2⟩
theorem append116 {B : Nat} {w : World} {v : Value} {n : Nat} {xs : List Value} {g c : Nat} {y : Value} (h : w.ownsRow B 34 1 v n xs) (hB : B ≤ w.heap.size) (hn : n ≤ 1000000) (hy : ∃ a k m, y = .slice a k m) (hg : w.heap[g]? = some (.cells #[y] c (0, 0))) :
    ∃ g' cap w', (Builtin.append_ #[66, 66] 66 #[v, .slice (some ⟨g, 0, none⟩) 1 1]).run Tryz.prog w = .ok (.slice (some ⟨g', 0, none⟩) (n + 1) cap) w' ∧ w'.ownsRow B 34 1 (.slice (some ⟨g', 0, none⟩) (n + 1) cap) (n + 1) (xs ++ [y]) ∧ w.grownBy w' v.ownBlock ∧ (v.ownBlock = some g' ∨ g' = w.heap.size) ∧ g' < w'.heap.size := by
  obtain ⟨i, hi, hz, hs, hb⟩ := info116_parts
  obtain ⟨a, k, m, rfl⟩ := hy
  exact run_append_lies (P := Tryz.prog) w 66 66 B 34 i _ 1 24 Tryz.underlying66 hi hz hs hb rfl (by decide) v n _ h ⟨g, 0, none⟩ 1 1 [.slice a k m] rfl
    (fun j u hj => by rw [Go.WideShapes.add_plain, Nat.zero_add]; exact cell_row hg j (by simpa using hj)) (by intro u hu; simp at hu; subst hu; rfl) (by decide) (by unfold maxLen; omega) (by omega) hB _ rfl
def rowV (n : Nat) (g : Nat) : Value := .slice (some ⟨g, 0, none⟩) n n
structure WhRow (n lo : Nat) (tr : List (List Bool)) (j : Nat) (sl : Value) (gs : List Nat) (wr : World) : Prop where
  len : gs.length = j
  row : wr.ownsRow lo 34 1 sl j (gs.map (rowV n))
  blk : ∀ (i g : Nat) (x : List Bool), gs[i]? = some g → tr[i]? = some x → BBlk wr g x ∧ lo ≤ g ∧ sl.ownBlock ≠ some g
theorem WhRow.chg {S : Nat → Prop} {n lo : Nat} {tr : List (List Bool)} {j : Nat} {sl : Value} {gs : List Nat} {W W' : World} (h : WhRow n lo tr j sl gs W) (hc : Chg S W W') (hn : ∀ q, lo ≤ q → ¬ S q) : WhRow n lo tr j sl gs W' :=
  ⟨h.len, ownsRow_chg h.row hc (fun q hq => hn q (h.row.lt q hq).1), fun i g x h1 h2 => by obtain ⟨a, b, c⟩ := h.blk i g x h1 h2; exact ⟨a.chg hc (hn g b), b, c⟩⟩
theorem WhRow.next {n lo : Nat} {tr : List (List Bool)} {j : Nat} {sl : Value} {gs : List Nat} {wr w4 w6 : World} {x : List Bool} {g g' cap : Nat} (h : WhRow n lo tr j sl gs wr) (hlo : lo ≤ wr.heap.size) (hx : tr[j]? = some x)
    (hc4 : Chg Nob wr w4) (hg : wr.heap.size ≤ g) (hb : BBlk w4 g x)
    (hr6 : w6.ownsRow lo 34 1 (.slice (some ⟨g', 0, none⟩) (j + 1) cap) (j + 1) (gs.map (rowV n) ++ [rowV n g])) (hgr : (w4.alloc (.cells #[rowV n g] 34)).grownBy w6 sl.ownBlock) (hlies : sl.ownBlock = some g' ∨ g' = (w4.alloc (.cells #[rowV n g] 34)).heap.size) :
    WhRow n lo tr (j + 1) (.slice (some ⟨g', 0, none⟩) (j + 1) cap) (gs ++ [g]) w6 ∧ Chg (fun q => sl.ownBlock = some q) wr w6 := by
  have hz4 := hc4.size
  have hz5 : (w4.alloc (.cells #[rowV n g] 34)).heap.size = w4.heap.size + 1 := World.size_alloc _ _
  have hown : ∀ q, sl.ownBlock = some q → lo ≤ q ∧ q < wr.heap.size := fun q hq => h.row.lt q hq
  have hc46 : Chg (fun q => sl.ownBlock = some q) w4 w6 := ((Chg.refl Nob w4).alloc _).any.trans1 ((Chg.refl _ _).grown hgr (fun q hq _ => hq))
  have hcr6 : Chg (fun q => sl.ownBlock = some q) wr w6 := hc4.any.trans1 hc46
  have hglt := hb.lt
  refine ⟨⟨by rw [List.length_append, h.len]; rfl, by rw [List.map_append]; exact hr6, fun i u y hu hy => ?_⟩, hcr6⟩
  by_cases hij : i < gs.length
  · rw [List.getElem?_append_left hij] at hu
    obtain ⟨h1, h2, h3⟩ := h.blk i u y hu hy
    refine ⟨h1.chg hcr6 h3, h2, fun e => ?_⟩
    have e : g' = u := by simpa [Value.ownBlock] using e
    have := h1.lt
    rcases hlies with e2 | e2
    · exact h3 (by rw [e2, e])
    · omega
  · have hi2 : i = gs.length := by
      have := (List.getElem?_eq_some_iff.1 hu).1
      rw [List.length_append] at this
      simp only [List.length_cons, List.length_nil] at this
      omega
    subst hi2
    rw [List.getElem?_append_right (Nat.le_refl _), Nat.sub_self] at hu
    obtain rfl : g = u := by simpa using hu
    rw [h.len, hx] at hy
    cases hy
    refine ⟨hb.chg hc46 (fun e => by have := hown g e; omega), by omega, fun e => ?_⟩
    have e : g' = g := by simpa [Value.ownBlock] using e
    rcases hlies with e2 | e2
    · have := hown g' e2; omega
    · omega
theorem WhRow.at {n lo : Nat} {tr : List (List Bool)} {m : Nat} {sl : Value} {gs : List Nat} {W : World} (h : WhRow n lo tr m sl gs W) {i : Nat} (hi : i < m) {x : List Bool} (hx : tr[i]? = some x) :
    ∃ r c g, sl = .slice (some ⟨r, 0, none⟩) m c ∧ lo ≤ r ∧ W.cell? ⟨r, i, none⟩ = some (.slice (some ⟨g, 0, none⟩) n n) ∧ BBlk W g x := by
  obtain ⟨r, c, rfl, hc⟩ := ownsRow_some h.row (by omega)
  have hil : i < gs.length := by rw [h.len]; exact hi
  obtain ⟨h1, h2, h3⟩ := h.blk i gs[i] x (List.getElem?_eq_getElem hil) hx
  have hr := hc i (rowV n gs[i]) (by rw [List.getElem?_map, List.getElem?_eq_getElem hil]; rfl)
  rw [Go.WideShapes.add_plain, Nat.zero_add] at hr
  exact ⟨r, c, gs[i], rfl, (h.row.lt r rfl).1, hr, h1⟩
def whereN (nr : List UInt8 → List Bool) (np n : Nat) (k : Int) (nm : List UInt8) (l : List (List Bool)) : List Bool :=
  if k = 1 then List.replicate n true else if k = 2 then List.replicate n false else if k = 3 then nr nm
  else if k = 4 then (List.range n).map (fun i => !((l.getD 0 []).getD i false))
  else if k = 5 then (List.range n).map (fun i => (l.getD 0 []).getD (nextN np n i) false)
  else if k = 6 then fixL np n (List.replicate n false) (l.getD 0 []) true
  else if k = 7 then fixL np n (l.getD 0 []) (List.replicate n true) false
  else if k = 8 then List.zipWith (fun x y => x && y) (l.getD 0 []) (l.getD 1 [])
  else if k = 9 then List.zipWith (fun x y => x || y) (l.getD 0 []) (l.getD 1 [])
  else if k = 10 then List.zipWith (fun x y => !x || y) (l.getD 0 []) (l.getD 1 [])
  else if k = 11 then List.zipWith (fun x y => x == y) (l.getD 0 []) (l.getD 1 [])
  else if k = 12 then fixL np n (l.getD 1 []) (l.getD 0 []) false
  else if k = 13 then fixL np n (List.zipWith (fun x y => x && y) (l.getD 0 []) (l.getD 1 [])) (l.getD 1 []) true
  else fixL np n (l.getD 1 []) (l.getD 0 []) true
mutual
def whereT (nr : List UInt8 → List Bool) (np n : Nat) : T → List Bool
  | .node k nm kids => whereN nr np n k nm (whereL nr np n kids)
def whereL (nr : List UInt8 → List Bool) (np n : Nat) : List T → List (List Bool)
  | [] => []
  | t :: ts => whereT nr np n t :: whereL nr np n ts
end
theorem whereL_map (nr : List UInt8 → List Bool) (np n : Nat) : ∀ l : List T, whereL nr np n l = l.map (whereT nr np n)
  | [] => by rw [whereL]; rfl
  | t :: ts => by rw [whereL, whereL_map nr np n ts]; rfl
theorem whereT_eq (nr : List UInt8 → List Bool) (np n : Nat) (t : T) : whereT nr np n t = whereN nr np n t.kind t.name (t.kids.map (whereT nr np n)) := by
  cases t with
  | node k nm kids => rw [whereT, whereL_map]; rfl
theorem sweepTo_len (np n : Nat) (A B : List Bool) : ∀ (m : Nat) (L : List Bool), (sweepTo np n A B m L).length = L.length
  | 0, _ => rfl
  | m + 1, L => by rw [sweepTo, sweepTo_len np n A B m, updL, List.length_set]
theorem fixL_len (np n : Nat) (A B : List Bool) (b : Bool) : (fixL np n A B b).length = n := by
  unfold fixL
  rw [sweepTo_len, sweepTo_len, List.length_replicate]
theorem kids_two {t : T} (h : mayT t = true) (hk : 8 ≤ t.kind) : ∃ a b, t.kids = [a, b] := by
  rw [mayT_eq, Bool.and_eq_true] at h
  have h1 := h.1
  unfold okNode at h1
  rw [Bool.and_eq_true, decide_eq_true_eq] at h1
  have h2 := h1.1
  unfold kidsOf at h2
  have h3 : t.kids.length = 2 := by
    repeat' split at h2
    all_goals omega
  match hkk : t.kids, h3 with
  | [a, b], _ => exact ⟨a, b, rfl⟩
theorem may_kids {t : T} (h : mayT t = true) : ∀ u ∈ t.kids, mayT u = true := by
  intro u hu
  rw [mayT_eq, Bool.and_eq_true] at h
  obtain ⟨j, hj⟩ := List.getElem?_of_mem hu
  cases hm : mayT u with
  | true => rfl
  | false => rw [mayL_not hj hm] at h; exact absurd h.2 (by decide)
end Go.Proofs.YtkgfdgfhpdhhaaaGreat
