/- What normal forms are like, plain. Conditions: the formula may be. -/
import Derived.Test.YtkgfdgfhpdhhaaaGreatKnown
namespace Go.Proofs.YtkgfdgfhpdhhaaaGreat

theorem T.eta (t : T) : t = .node t.kind t.name t.kids := by cases t; rfl
def PN (u : T) : Prop := mayT u = true ∧ (allT u).all plainOk = true
theorem PN.plain {u : T} (h : PN u) : plainB u = true := by
  unfold plainB
  rw [h.1, h.2]; rfl
theorem allT_one (k : Int) (a : T) : allT (.node k [] [a]) = .node k [] [a] :: allT a := by
  rw [allT, allL, allL, List.append_nil]
theorem allT_two (k : Int) (a b : T) : allT (.node k [] [a, b]) = .node k [] [a, b] :: (allT a ++ allT b) := by
  rw [allT, allL, allL, allL, List.append_nil]
theorem allT_leaf (k : Int) (n : List UInt8) : allT (.node k n []) = [.node k n []] := by
  rw [allT, allL]
theorem plainOk_of {u : T} (h : u.kind = 1 ∨ u.kind = 2 ∨ u.kind = 3 ∨ u.kind = 5 ∨ u.kind = 8 ∨ u.kind = 9 ∨ u.kind = 12 ∨ u.kind = 13) : plainOk u = true := by
  unfold plainOk
  rw [if_neg (by omega), if_neg (by omega)]
theorem PN.leaf {k : Int} (h : k = 1 ∨ k = 2) : PN (.node k [] []) := by
  refine ⟨?_, ?_⟩
  · rw [mayT, mayL]
    rcases h with rfl | rfl <;> rfl
  · rw [allT_leaf, List.all_cons, plainOk_of (by show k = 1 ∨ k = 2 ∨ k = 3 ∨ k = 5 ∨ k = 8 ∨ k = 9 ∨ k = 12 ∨ k = 13; omega)]; rfl
theorem PN.name {n : List UInt8} (h : nameB n = true) : PN (.node 3 n []) := by
  refine ⟨?_, ?_⟩
  · rw [mayT, mayL]
    unfold okNode
    rw [if_pos rfl, h]; rfl
  · rw [allT_leaf, List.all_cons, plainOk_of (.inr (.inr (.inl rfl)))]; rfl
theorem PN.noName {n : List UInt8} (h : nameB n = true) : PN (.node 4 [] [.node 3 n []]) := by
  refine ⟨may_one (by omega) (PN.name h).1, ?_⟩
  rw [allT_one, List.all_cons, (PN.name h).2]
  rfl
theorem PN.next {a : T} (h : PN a) : PN (.node 5 [] [a]) := by
  refine ⟨may_one (by omega) h.1, ?_⟩
  rw [allT_one, List.all_cons, h.2, plainOk_of (.inr (.inr (.inr (.inl rfl))))]; rfl
theorem PN.two {k : Int} {a b : T} (hk : k = 8 ∨ k = 9 ∨ k = 12 ∨ k = 13) (h : PN a) (h2 : PN b) : PN (.node k [] [a, b]) := by
  refine ⟨may_two (by omega) h.1 h2.1, ?_⟩
  rw [allT_two, List.all_cons, List.all_append, h.2, h2.2, plainOk_of (by show k = 1 ∨ k = 2 ∨ k = 3 ∨ k = 5 ∨ k = 8 ∨ k = 9 ∨ k = 12 ∨ k = 13; omega)]; rfl
theorem flip_1 (no : Bool) : flipK 1 no = 1 ∨ flipK 1 no = 2 := by cases no <;> simp [flipK]
theorem flip_2 (no : Bool) : flipK 2 no = 1 ∨ flipK 2 no = 2 := by cases no <;> simp [flipK]
theorem flip_two {k : Int} (h : k = 8 ∨ k = 9 ∨ k = 12 ∨ k = 13) (no : Bool) : flipK k no = 8 ∨ flipK k no = 9 ∨ flipK k no = 12 ∨ flipK k no = 13 := by
  rcases h with rfl | rfl | rfl | rfl <;> cases no <;> simp [flipK]
theorem flip_flip {k : Int} (h : k = 1 ∨ k = 2 ∨ k = 8 ∨ k = 9 ∨ k = 12 ∨ k = 13) (no : Bool) : flipK (flipK k no) true = flipK k (!no) := by
  rcases h with rfl | rfl | rfl | rfl | rfl | rfl <;> cases no <;> rfl
/-- A normal form is plain. -/
theorem nf_PN : ∀ t : T, mayT t = true → ∀ no, PN (nfT t no) := by
  refine kid_induct ?_
  intro t ih h no
  rw [nfT_eq]
  rcases may_shape h with ⟨hk, hn, hl⟩ | ⟨hk, hn, hl⟩ | ⟨hk, hn, a, hl, ha⟩ | ⟨hk, hn, a, b, hl, ha, hb⟩
  · rw [if_pos hk]
    rcases hk with e | e
    · rw [e]; exact .leaf (flip_1 no)
    · rw [e]; exact .leaf (flip_2 no)
  · rw [if_neg (by omega), if_pos hk]
    cases no
    · exact .name hn
    · exact .noName hn
  · rw [if_neg (by omega), if_neg (by omega), hl, nfL_one]
    have fa := ih a (by rw [hl]; simp) ha
    have hk' : t.kind = 4 ∨ t.kind = 5 ∨ t.kind = 6 ∨ t.kind = 7 := by omega
    rcases hk' with e | e | e | e
    · rw [e]; exact fa _
    · rw [e]; exact (fa _).next
    · rw [e]; exact .two (flip_two (by omega) no) (.leaf (flip_2 no)) (fa _)
    · rw [e]; exact .two (flip_two (by omega) no) (.leaf (flip_1 no)) (fa _)
  · rw [if_neg (by omega), if_neg (by omega), hl, nfL_two]
    have fa := ih a (by rw [hl]; simp) ha
    have fb := ih b (by rw [hl]; simp) hb
    have hk' : t.kind = 8 ∨ t.kind = 9 ∨ t.kind = 10 ∨ t.kind = 11 ∨ t.kind = 12 ∨ t.kind = 13 ∨ t.kind = 14 := by omega
    rcases hk' with e | e | e | e | e | e | e
    · rw [e]; exact .two (flip_two (by omega) no) (fa _) (fb _)
    · rw [e]; exact .two (flip_two (by omega) no) (fa _) (fb _)
    · rw [e]; exact .two (flip_two (by omega) no) (fa _) (fb _)
    · rw [e]; exact .two (by omega) (.two (by omega) (fa _) (fb _)) (.two (by omega) (fa _) (fb _))
    · rw [e]; exact .two (flip_two (by omega) no) (fa _) (fb _)
    · rw [e]; exact .two (flip_two (by omega) no) (fa _) (fb _)
    · rw [e]; exact .two (flip_two (by omega) no) (fb _) (.two (flip_two (by omega) no) (fa _) (fb _))
theorem nf_leaf' (k : Int) (no : Bool) (h : k = 1 ∨ k = 2) : nfT (.node k [] []) no = .node (flipK k no) [] [] := by
  rw [nfT_eq]
  exact if_pos h
theorem nf_next' (a : T) (no : Bool) : nfT (.node 5 [] [a]) no = .node 5 [] [nfT a no] := by
  rw [nfT_eq]
  show (if (5 : Int) = 1 ∨ (5 : Int) = 2 then _ else if (5 : Int) = 3 then _ else nfL 5 [a] no) = _
  rw [if_neg (by omega), if_neg (by omega), nfL_one]; rfl
theorem nf_not' (a : T) (no : Bool) : nfT (.node 4 [] [a]) no = nfT a (!no) := by
  rw [nfT_eq]
  show (if (4 : Int) = 1 ∨ (4 : Int) = 2 then _ else if (4 : Int) = 3 then _ else nfL 4 [a] no) = _
  rw [if_neg (by omega), if_neg (by omega), nfL_one]; rfl
theorem nf_two' (k : Int) (a b : T) (no : Bool) (h : k = 8 ∨ k = 9 ∨ k = 12 ∨ k = 13) : nfT (.node k [] [a, b]) no = .node (flipK k no) [] [nfT a no, nfT b no] := by
  rw [nfT_eq]
  show (if k = 1 ∨ k = 2 then _ else if k = 3 then _ else nfL k [a, b] no) = _
  rw [if_neg (by omega), if_neg (by omega), nfL_two, if_neg (by omega), if_neg (by omega), if_neg (by omega)]
theorem nf_name' (n : List UInt8) (no : Bool) : nfT (.node 3 n []) no = if no then .node 4 [] [.node 3 n []] else .node 3 n [] := by
  rw [nfT_eq]
  show (if (3 : Int) = 1 ∨ (3 : Int) = 2 then _ else if (3 : Int) = 3 then _ else nfL 3 [] no) = _
  rw [if_neg (by omega), if_pos rfl]; rfl
/-- A plain formula is its own normal form. -/
theorem nf_self : ∀ u : T, mayT u = true → (allT u).all plainOk = true → nfT u false = u := by
  refine kid_induct ?_
  intro t ih h hp
  obtain ⟨k, nm, kids⟩ := t
  rw [allT, List.all_cons, Bool.and_eq_true] at hp
  obtain ⟨hp, hps⟩ := hp
  rcases may_shape h with ⟨hk, hn, hl⟩ | ⟨hk, hn, hl⟩ | ⟨hk, hn, a, hl, ha⟩ | ⟨hk, hn, a, b, hl, ha, hb⟩
  · have hk : k = 1 ∨ k = 2 := hk
    have hn : nm = [] := hn
    have hl : kids = [] := hl
    subst hn hl
    rw [nf_leaf' k false hk]; rfl
  · have hk : k = 3 := hk
    have hl : kids = [] := hl
    subst hk hl
    rw [nf_name']; rfl
  · have hk : 4 ≤ k ∧ k ≤ 7 := hk
    have hn : nm = [] := hn
    have hl : kids = [a] := hl
    subst hn hl
    rw [allL, allL, List.append_nil] at hps
    have ha2 := ih a (by simp [T.kids]) ha hps
    unfold plainOk at hp
    have hk' : k = 4 ∨ k = 5 ∨ k = 6 ∨ k = 7 := by omega
    rcases hk' with rfl | rfl | rfl | rfl
    · have h3 : a.kind = 3 := by
        have hp : (if (4 : Int) = 6 ∨ (4 : Int) = 7 ∨ (4 : Int) = 10 ∨ (4 : Int) = 11 ∨ (4 : Int) = 14 then false else if (4 : Int) = 4 then decide (headK [a] = 3) else true) = true := hp
        rw [if_neg (by omega), if_pos rfl] at hp
        exact of_decide_eq_true hp
      rw [nf_not']
      have := T.eta a
      have hk0 : a.kids = [] := by
        rcases may_shape ha with ⟨hk, _⟩ | ⟨_, _, hl⟩ | ⟨hk, _⟩ | ⟨hk, _⟩
        · omega
        · exact hl
        · omega
        · omega
      rw [h3, hk0] at this
      rw [this, nf_name']; rfl
    · rw [nf_next', ha2]
    · rw [if_pos (.inl rfl)] at hp; cases hp
    · rw [if_pos (.inr (.inl rfl))] at hp; cases hp
  · have hk : 8 ≤ k ∧ k ≤ 14 := hk
    have hn : nm = [] := hn
    have hl : kids = [a, b] := hl
    subst hn hl
    rw [allL, allL, allL, List.append_nil, List.all_append, Bool.and_eq_true] at hps
    have ha2 := ih a (by simp [T.kids]) ha hps.1
    have hb2 := ih b (by simp [T.kids]) hb hps.2
    unfold plainOk at hp
    have hk' : (k = 8 ∨ k = 9 ∨ k = 12 ∨ k = 13) ∨ (k = 10 ∨ k = 11 ∨ k = 14) := by omega
    rcases hk' with hk' | hk'
    · rw [nf_two' k a b false hk', ha2, hb2]; rfl
    · rw [if_pos (by show k = 6 ∨ k = 7 ∨ k = 10 ∨ k = 11 ∨ k = 14; omega)] at hp; cases hp
/-- The normal form of a normal form's negation is that of the opposite, where no equivalence stands. -/
theorem nf_back : ∀ t : T, mayT t = true → hasT 11 t = false → ∀ no, nfT (nfT t no) true = nfT t (!no) := by
  refine kid_induct ?_
  intro t ih h hh no
  rw [hasT_eq, Bool.or_eq_false_iff] at hh
  obtain ⟨hh1, hh2⟩ := hh
  have hh1 := beq_eq_false_iff_ne.1 hh1
  rcases may_shape h with ⟨hk, hn, hl⟩ | ⟨hk, hn, hl⟩ | ⟨hk, hn, a, hl, ha⟩ | ⟨hk, hn, a, b, hl, ha, hb⟩
  · have e1 : ∀ no, nfT t no = .node (flipK t.kind no) [] [] := fun no => by rw [nfT_eq, if_pos hk]
    rw [e1, e1]
    have : flipK t.kind no = 1 ∨ flipK t.kind no = 2 := by
      rcases hk with e | e
      · rw [e]; exact flip_1 no
      · rw [e]; exact flip_2 no
    rw [nf_leaf' _ _ this, flip_flip (by omega)]
  · have e1 : ∀ no, nfT t no = if no then .node 4 [] [.node 3 t.name []] else .node 3 t.name [] := fun no => by rw [nfT_eq, if_neg (by omega), if_pos hk]
    rw [e1, e1]
    cases no
    · exact nf_name' _ _
    · show nfT (.node 4 [] [.node 3 t.name []]) true = .node 3 t.name []
      rw [nf_not', nf_name']; rfl
  · have e1 : ∀ no, nfT t no = nfL t.kind [a] no := fun no => by rw [nfT_eq, if_neg (by omega), if_neg (by omega), hl]
    rw [e1, e1, nfL_one, nfL_one]
    rw [hl, hasL, hasL, Bool.or_false] at hh2
    have fa := ih a (by rw [hl]; simp) ha hh2
    have hk' : t.kind = 4 ∨ t.kind = 5 ∨ t.kind = 6 ∨ t.kind = 7 := by omega
    rcases hk' with e | e | e | e
    · rw [e]; exact fa _
    · rw [e]
      show nfT (.node 5 [] [nfT a no]) true = .node 5 [] [nfT a (!no)]
      rw [nf_next', fa]
    · rw [e]
      show nfT (.node (flipK 13 no) [] [.node (flipK 2 no) [] [], nfT a no]) true = .node (flipK 13 (!no)) [] [.node (flipK 2 (!no)) [] [], nfT a (!no)]
      rw [nf_two' _ _ _ _ (flip_two (by omega) no), nf_leaf' _ _ (flip_2 no), fa, flip_flip (by omega), flip_flip (by omega)]
    · rw [e]
      show nfT (.node (flipK 12 no) [] [.node (flipK 1 no) [] [], nfT a no]) true = .node (flipK 12 (!no)) [] [.node (flipK 1 (!no)) [] [], nfT a (!no)]
      rw [nf_two' _ _ _ _ (flip_two (by omega) no), nf_leaf' _ _ (flip_1 no), fa, flip_flip (by omega), flip_flip (by omega)]
  · have e1 : ∀ no, nfT t no = nfL t.kind [a, b] no := fun no => by rw [nfT_eq, if_neg (by omega), if_neg (by omega), hl]
    rw [e1, e1, nfL_two, nfL_two]
    rw [hl, hasL, hasL, hasL, Bool.or_false, Bool.or_eq_false_iff] at hh2
    have fa := ih a (by rw [hl]; simp) ha hh2.1
    have fb := ih b (by rw [hl]; simp) hb hh2.2
    have plainCase : ∀ k : Int, (k = 8 ∨ k = 9 ∨ k = 12 ∨ k = 13) → nfT (.node (flipK k no) [] [nfT a no, nfT b no]) true = .node (flipK k (!no)) [] [nfT a (!no), nfT b (!no)] := by
      intro k hk
      rw [nf_two' _ _ _ _ (flip_two hk no), fa, fb, flip_flip (by omega)]
    have hk' : t.kind = 8 ∨ t.kind = 9 ∨ t.kind = 10 ∨ t.kind = 12 ∨ t.kind = 13 ∨ t.kind = 14 := by omega
    rcases hk' with e | e | e | e | e | e
    · rw [e]; exact plainCase 8 (by omega)
    · rw [e]; exact plainCase 9 (by omega)
    · rw [e]
      show nfT (.node (flipK 9 no) [] [nfT a (!no), nfT b no]) true = .node (flipK 9 (!no)) [] [nfT a (!(!no)), nfT b (!no)]
      rw [nf_two' _ _ _ _ (flip_two (by omega) no), fa, fb, flip_flip (by omega)]
    · rw [e]; exact plainCase 12 (by omega)
    · rw [e]; exact plainCase 13 (by omega)
    · rw [e]
      show nfT (.node (flipK 13 no) [] [nfT b no, .node (flipK 9 no) [] [nfT a no, nfT b no]]) true = .node (flipK 13 (!no)) [] [nfT b (!no), .node (flipK 9 (!no)) [] [nfT a (!no), nfT b (!no)]]
      rw [nf_two' _ _ _ _ (flip_two (by omega) no), nf_two' _ _ _ _ (flip_two (by omega) no), fa, fb, flip_flip (by omega), flip_flip (by omega)]
end Go.Proofs.YtkgfdgfhpdhhaaaGreat
