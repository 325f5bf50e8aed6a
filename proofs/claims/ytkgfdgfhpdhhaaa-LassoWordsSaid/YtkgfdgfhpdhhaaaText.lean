/- A formula's text, its normal form, plain. Conditions: none. -/
import Derived.Test.YtkgfdgfhpdhhaaaGram
namespace Go.Proofs.Ytkgfdgfhpdhhaaa

/-- A kind's level. -/
def rankK (k : Int) : Int := if 4 ≤ k ∧ k ≤ 7 then 5 else if 12 ≤ k ∧ k ≤ 14 then 4 else if k = 8 then 3 else if k = 9 then 2 else if k = 10 then 1 else if k = 11 then 0 else 6
def preText (k : Int) : List UInt8 := if k = 4 then [33] else if k = 5 then [88, 32] else if k = 6 then [91, 93, 32] else [60, 62, 32]
/-- An operator's word, the levels of what stands at its left and at its right. -/
def opText (k : Int) : List UInt8 := if k = 12 then [85] else if k = 13 then [86] else if k = 14 then [87] else if k = 8 then [38, 38] else if k = 9 then [124, 124] else if k = 10 then [45, 62] else [60, 45, 62]
def leftK (k : Int) : Int := if 12 ≤ k ∧ k ≤ 14 then 5 else if k = 8 then 3 else if k = 9 then 2 else if k = 10 then 2 else 1
def rightK (k : Int) : Int := if 12 ≤ k ∧ k ≤ 14 then 4 else if k = 8 then 4 else if k = 9 then 3 else if k = 10 then 1 else 0
def within (k : Int) (least : Int) (x : List UInt8) : List UInt8 := if rankK k < least then [40] ++ x ++ [41] else x
mutual
/-- A formula's text. -/
def textT : T → List UInt8
  | .node k nm kids => if k = 1 then [116, 114, 117, 101] else if k = 2 then [102, 97, 108, 115, 101] else if k = 3 then nm else textL k kids
def textL (k : Int) : List T → List UInt8
  | [.node ka na la] => preText k ++ within ka 5 (textT (.node ka na la))
  | [.node ka na la, .node kb nb lb] => within ka (leftK k) (textT (.node ka na la)) ++ ([32] ++ opText k ++ [32]) ++ within kb (rightK k) (textT (.node kb nb lb))
  | _ => []
end
theorem textT_eq (t : T) : textT t = if t.kind = 1 then [116, 114, 117, 101] else if t.kind = 2 then [102, 97, 108, 115, 101] else if t.kind = 3 then t.name else textL t.kind t.kids := by
  cases t
  rw [textT]; rfl
theorem textL_one (k : Int) (a : T) : textL k [a] = preText k ++ within a.kind 5 (textT a) := by
  cases a
  rw [textL]; rfl
theorem textL_two (k : Int) (a b : T) : textL k [a, b] = within a.kind (leftK k) (textT a) ++ ([32] ++ opText k ++ [32]) ++ within b.kind (rightK k) (textT b) := by
  cases a
  cases b
  rw [textL]; rfl
theorem within_length (k least : Int) (x : List UInt8) : (within k least x).length ≤ x.length + 2 ∧ x.length ≤ (within k least x).length := by
  unfold within
  split
  · simp only [List.length_append, List.length_cons, List.length_nil]; omega
  · omega
/-- A formula that may be: what it is made of. -/
theorem may_shape {t : T} (h : mayT t = true) : ((t.kind = 1 ∨ t.kind = 2) ∧ t.name = [] ∧ t.kids = []) ∨ (t.kind = 3 ∧ nameB t.name = true ∧ t.kids = []) ∨ ((4 ≤ t.kind ∧ t.kind ≤ 7) ∧ t.name = [] ∧ ∃ a, t.kids = [a] ∧ mayT a = true) ∨
    ((8 ≤ t.kind ∧ t.kind ≤ 14) ∧ t.name = [] ∧ ∃ a b, t.kids = [a, b] ∧ mayT a = true ∧ mayT b = true) := by
  cases t with
  | node k nm kids =>
    rw [mayT, Bool.and_eq_true] at h
    obtain ⟨h1, h2⟩ := h
    unfold okNode at h1
    rw [Bool.and_eq_true] at h1
    obtain ⟨h1, h3⟩ := h1
    have h1 := of_decide_eq_true h1
    show ((k = 1 ∨ k = 2) ∧ nm = [] ∧ kids = []) ∨ (k = 3 ∧ nameB nm = true ∧ kids = []) ∨ ((4 ≤ k ∧ k ≤ 7) ∧ nm = [] ∧ ∃ a, kids = [a] ∧ mayT a = true) ∨ ((8 ≤ k ∧ k ≤ 14) ∧ nm = [] ∧ ∃ a b, kids = [a, b] ∧ mayT a = true ∧ mayT b = true)
    match kids, h1, h2 with
    | [], h1, h2 =>
      have hk : 1 ≤ k ∧ k ≤ 3 := by
        unfold kidsOf at h1
        repeat' split at h1
        all_goals first | assumption | (simp at h1)
      by_cases h3k : k = 3
      · rw [if_pos h3k] at h3
        exact .inr (.inl ⟨h3k, h3, rfl⟩)
      · rw [if_neg h3k] at h3
        exact .inl ⟨by omega, of_decide_eq_true h3, rfl⟩
    | [a], h1, h2 =>
      have hk : 4 ≤ k ∧ k ≤ 7 := by
        unfold kidsOf at h1
        repeat' split at h1
        all_goals first | assumption | (simp at h1)
      rw [if_neg (by omega)] at h3
      rw [mayL, mayL, Bool.and_true] at h2
      exact .inr (.inr (.inl ⟨hk, of_decide_eq_true h3, a, rfl, h2⟩))
    | [a, b], h1, h2 =>
      have hk : 8 ≤ k ∧ k ≤ 14 := by
        unfold kidsOf at h1
        repeat' split at h1
        all_goals first | assumption | (simp at h1)
      rw [if_neg (by omega)] at h3
      rw [mayL, mayL, mayL, Bool.and_true, Bool.and_eq_true] at h2
      exact .inr (.inr (.inr ⟨hk, of_decide_eq_true h3, a, b, rfl, h2.1, h2.2⟩))
    | _ :: _ :: _ :: _, h1, _ =>
      unfold kidsOf at h1
      simp only [List.length_cons] at h1
      repeat' split at h1
      all_goals omega
/-- A bound of a text's length. -/
theorem name_length {x : List UInt8} (h : nameB x = true) : 1 ≤ x.length ∧ x.length ≤ 32 := by
  unfold nameB at h
  simp only [Bool.and_eq_true, decide_eq_true_eq] at h
  refine ⟨?_, h.1.1.1⟩
  cases x with
  | nil => exact absurd h.1.1.2 (by simp [headB])
  | cons _ _ => simp
theorem preText_length (k : Int) : 1 ≤ (preText k).length ∧ (preText k).length ≤ 3 := by
  unfold preText
  repeat' split
  all_goals decide
theorem opText_length (k : Int) : 1 ≤ (opText k).length ∧ (opText k).length ≤ 3 := by
  unfold opText
  repeat' split
  all_goals decide
theorem kid_induct {P : T → Prop} (h : ∀ t, (∀ u ∈ t.kids, P u) → P t) : ∀ t, P t := by
  have key : ∀ (N : Nat) (t : T), sizeT t ≤ N → P t := by
    intro N
    induction N with
    | zero => intro t ht; have := sizeT_pos t; omega
    | succ N ih =>
      intro t ht
      refine h t (fun u hu => ih u ?_)
      cases t with
      | node k nm kids =>
        rw [sizeT] at ht
        have : ∀ (l : List T), u ∈ l → sizeT u ≤ sizeL l := by
          intro l
          induction l with
          | nil => intro h; cases h
          | cons x l ihl =>
            intro h
            rw [sizeL]
            rcases List.mem_cons.1 h with rfl | h
            · omega
            · have := ihl h; omega
        have := this kids hu
        omega
  exact fun t => key _ t (Nat.le_refl _)
theorem text_length : ∀ t : T, mayT t = true → sizeT t ≤ (textT t).length ∧ (textT t).length ≤ 50 * sizeT t := by
  refine kid_induct ?_
  intro t ih h
  rw [textT_eq]
  rcases may_shape h with ⟨hk, hn, hl⟩ | ⟨hk, hn, hl⟩ | ⟨hk, hn, a, hl, ha⟩ | ⟨hk, hn, a, b, hl, ha, hb⟩
  · have hs : sizeT t = 1 := by cases t; have hl := hl; simp [T.kids] at hl; subst hl; rw [sizeT, sizeL]
    rcases hk with hk | hk
    · rw [hk, hs]; simp
    · rw [hk, hs]; simp
  · have hs : sizeT t = 1 := by cases t; have hl := hl; simp [T.kids] at hl; subst hl; rw [sizeT, sizeL]
    have := name_length hn
    rw [if_neg (by omega), if_neg (by omega), if_pos hk, hs]
    omega
  · have hs : sizeT t = 1 + sizeT a := by cases t; have hl := hl; simp [T.kids] at hl; subst hl; rw [sizeT, sizeL, sizeL]; omega
    have i1 := ih a (by rw [hl]; simp) ha
    have i2 := within_length a.kind 5 (textT a)
    have i3 := preText_length t.kind
    rw [if_neg (by omega), if_neg (by omega), if_neg (by omega), hl, textL_one, List.length_append, hs]
    omega
  · have hs : sizeT t = 1 + (sizeT a + sizeT b) := by cases t; have hl := hl; simp [T.kids] at hl; subst hl; rw [sizeT, sizeL, sizeL, sizeL]; omega
    have i1 := ih a (by rw [hl]; simp) ha
    have j1 := ih b (by rw [hl]; simp) hb
    have i2 := within_length a.kind (leftK t.kind) (textT a)
    have j2 := within_length b.kind (rightK t.kind) (textT b)
    have i3 := opText_length t.kind
    rw [if_neg (by omega), if_neg (by omega), if_neg (by omega), hl, textL_two]
    simp only [List.length_append, List.length_cons, List.length_nil]
    omega
/-- What a printer that stops behind 4096 bytes has written: all, or too much. -/
def Prt (b x b' : List UInt8) : Prop := b'.length ≤ b.length + x.length ∧ b.length ≤ b'.length ∧ (b' = b ++ x ∨ (4096 < b'.length ∧ 4096 < (b ++ x).length))
theorem Prt.all (b x : List UInt8) : Prt b x (b ++ x) := ⟨by rw [List.length_append]; omega, by rw [List.length_append]; omega, .inl rfl⟩
theorem Prt.too {b : List UInt8} (x : List UInt8) (h : 4096 < b.length) : Prt b x b := ⟨by omega, Nat.le_refl _, .inr ⟨h, by rw [List.length_append]; omega⟩⟩
theorem Prt.trans {b x b' y b'' : List UInt8} (h : Prt b x b') (k : Prt b' y b'') : Prt b (x ++ y) b'' := by
  obtain ⟨h1, h2, h3⟩ := h
  obtain ⟨k1, k2, k3⟩ := k
  refine ⟨by rw [List.length_append]; omega, by omega, ?_⟩
  rcases h3 with rfl | ⟨h3, h4⟩
  · rcases k3 with rfl | ⟨k3, k4⟩
    · exact .inl (by rw [List.append_assoc])
    · exact .inr ⟨k3, by rw [← List.append_assoc]; exact k4⟩
  · exact .inr ⟨by omega, by rw [List.length_append] at h4 ⊢; rw [List.length_append]; omega⟩

/- THE NORMAL FORM. -/
def flipK (k : Int) (no : Bool) : Int := if no = false then k else if k = 1 then 2 else if k = 2 then 1 else if k = 8 then 9 else if k = 9 then 8 else if k = 12 then 13 else 12
mutual
/-- A formula's normal form; no: its opposite's. -/
def nfT : T → Bool → T
  | .node k nm kids, no => if k = 1 ∨ k = 2 then .node (flipK k no) [] [] else if k = 3 then (if no then .node 4 [] [.node 3 nm []] else .node 3 nm []) else nfL k kids no
def nfL (k : Int) : List T → Bool → T
  | [a], no =>
    if k = 4 then nfT a (!no) else if k = 5 then .node 5 [] [nfT a no] else if k = 6 then .node (flipK 13 no) [] [.node (flipK 2 no) [] [], nfT a no]
    else .node (flipK 12 no) [] [.node (flipK 1 no) [] [], nfT a no]
  | [a, b], no =>
    if k = 10 then .node (flipK 9 no) [] [nfT a (!no), nfT b no]
    else if k = 11 then .node 9 [] [.node 8 [] [nfT a false, nfT b no], .node 8 [] [nfT a true, nfT b (!no)]]
    else if k = 14 then .node (flipK 13 no) [] [nfT b no, .node (flipK 9 no) [] [nfT a no, nfT b no]]
    else .node (flipK k no) [] [nfT a no, nfT b no]
  | _, _ => .node k [] []
end
theorem nfT_eq (t : T) (no : Bool) : nfT t no = if t.kind = 1 ∨ t.kind = 2 then .node (flipK t.kind no) [] [] else if t.kind = 3 then (if no then .node 4 [] [.node 3 t.name []] else .node 3 t.name []) else nfL t.kind t.kids no := by
  cases t
  rw [nfT]; rfl
end Go.Proofs.Ytkgfdgfhpdhhaaa
