/- A formula's text is read as the formula, plain. Conditions: the formula may be. The grammar's answer hangs on the words alone, plain. Conditions: none. Where a text is refused, plain. Conditions: none. -/
import Derived.Test.YtkgfdgfhpdhhaaaGreatSpell
namespace Go.Proofs.YtkgfdgfhpdhhaaaGreat

def wk (k : Int) (least : Int) (ws : List (List UInt8)) : List (List UInt8) := if rankK k < least then [[40]] ++ ws ++ [[41]] else ws
def preW (k : Int) : List UInt8 := if k = 4 then [33] else if k = 5 then [88] else if k = 6 then [91, 93] else [60, 62]
mutual
/-- The words of a formula's text. -/
def tk : T → List (List UInt8)
  | .node k nm kids => if k = 1 then [[116, 114, 117, 101]] else if k = 2 then [[102, 97, 108, 115, 101]] else if k = 3 then [nm] else tkL k kids
def tkL (k : Int) : List T → List (List UInt8)
  | [.node ka na la] => [preW k] ++ wk ka 5 (tk (.node ka na la))
  | [.node ka na la, .node kb nb lb] => wk ka (leftK k) (tk (.node ka na la)) ++ [opText k] ++ wk kb (rightK k) (tk (.node kb nb lb))
  | _ => []
end
theorem tk_eq (t : T) : tk t = if t.kind = 1 then [[116, 114, 117, 101]] else if t.kind = 2 then [[102, 97, 108, 115, 101]] else if t.kind = 3 then [t.name] else tkL t.kind t.kids := by
  cases t
  rw [tk]; rfl
theorem tkL_one (k : Int) (a : T) : tkL k [a] = [preW k] ++ wk a.kind 5 (tk a) := by
  cases a
  rw [tkL]; rfl
theorem tkL_two (k : Int) (a b : T) : tkL k [a, b] = wk a.kind (leftK k) (tk a) ++ [opText k] ++ wk b.kind (rightK k) (tk b) := by
  cases a
  cases b
  rw [tkL]; rfl
theorem name_word {x : List UInt8} (h : nameB x = true) : ∃ c r, x = c :: r ∧ letterB c = true ∧ r.all nameC = true ∧ r.length < 32 ∧ isWord x = false := by
  have hl := name_length h
  unfold nameB at h
  simp only [Bool.and_eq_true, decide_eq_true_eq, Bool.not_eq_true'] at h
  cases x with
  | nil => simp at hl
  | cons c r =>
    refine ⟨c, r, rfl, h.1.1.2, ?_, by simp at hl; omega, h.2⟩
    have := h.1.2
    rw [List.all_cons, Bool.and_eq_true] at this
    exact this.2
theorem word_ne {x w : List UInt8} (h : isWord x = false) (hw : w ∈ wordsL) : x ≠ w := by
  rintro rfl
  unfold isWord at h
  exact (of_decide_eq_false h) hw
theorem name_said {x : List UInt8} (h : nameB x = true) : saidL x = x := by
  obtain ⟨c, r, rfl, hc, _, _, hw⟩ := name_word h
  have n1 : c :: r ≠ [47, 92] := by rintro e; cases e; revert hc; decide
  have n2 : c :: r ≠ [92, 47] := by rintro e; cases e; revert hc; decide
  unfold saidL
  rw [if_neg n1, if_neg n2, if_neg (word_ne hw (by simp [wordsL])), if_neg (word_ne hw (by simp [wordsL])), if_neg (word_ne hw (by simp [wordsL])), if_neg (word_ne hw (by simp [wordsL])), if_neg (word_ne hw (by simp [wordsL])), if_neg (word_ne hw (by simp [wordsL]))]
theorem name_atom {x : List UInt8} (h : nameB x = true) : preOf x = none ∧ atomOf x = some (.node 3 x []) := by
  obtain ⟨c, r, rfl, hc, _, _, hw⟩ := name_word h
  have n1 : c :: r ≠ [33] := by rintro e; cases e; revert hc; decide
  have n2 : c :: r ≠ [91, 93] := by rintro e; cases e; revert hc; decide
  have n3 : c :: r ≠ [60, 62] := by rintro e; cases e; revert hc; decide
  constructor
  · unfold preOf
    rw [if_neg n1, if_neg (word_ne hw (by simp [wordsL])), if_neg n2, if_neg n3]
  · unfold atomOf
    rw [if_neg (word_ne hw (by simp [wordsL])), if_neg (word_ne hw (by simp [wordsL])), if_pos h]
theorem lex_par {x : List UInt8} {ws : List (List UInt8)} (h : LexS x ws) : LexA ([40] ++ x ++ [41]) ([[40]] ++ ws ++ [[41]]) := by
  rw [List.append_assoc, List.append_assoc]
  exact LexA.app (lex_sign (w := [40]) (by simp [signsL])) (LexS.appA h (lex_sign (w := [41]) (by simp [signsL])) (fun s => rfl))
theorem lex_within {x : List UInt8} {ws : List (List UInt8)} {k least : Int} (h : LexS x ws) : LexS (within k least x) (wk k least ws) := by
  unfold within wk
  split
  · exact (lex_par h).s
  · exact h
theorem lex_pre (k : Int) : LexA (preText k) [preW k] := by
  unfold preText preW
  split
  · exact lex_sign (w := [33]) (by simp [signsL])
  split
  · exact LexS.appA (x := [88]) (y := [32]) (ws := [[88]]) (vs := []) (lex_word (by decide) (by decide) (by decide)) (lex_blank (by decide)) (fun s => rfl)
  split
  · exact LexA.app (x := [91, 93]) (y := [32]) (ws := [[91, 93]]) (vs := []) (lex_sign (by simp [signsL])) (lex_blank (by decide))
  · exact LexA.app (x := [60, 62]) (y := [32]) (ws := [[60, 62]]) (vs := []) (lex_sign (by simp [signsL])) (lex_blank (by decide))
theorem lex_op (k : Int) : LexA ([32] ++ opText k ++ [32]) [opText k] := by
  have key : ∀ x : List UInt8, LexS x [x] → LexA ([32] ++ x ++ [32]) [x] := by
    intro x h
    have := LexA.app (ws := []) (vs := [x]) (lex_blank (c := 32) (by decide)) (LexS.appA (ws := [x]) (vs := []) h (lex_blank (c := 32) (by decide)) (fun s => rfl))
    rwa [← List.append_assoc] at this
  refine key _ ?_
  unfold opText
  split
  · exact lex_word (by decide) (by decide) (by decide)
  split
  · exact lex_word (by decide) (by decide) (by decide)
  split
  · exact lex_word (by decide) (by decide) (by decide)
  split
  · exact (lex_sign (w := [38, 38]) (by simp [signsL])).s
  split
  · exact (lex_sign (w := [124, 124]) (by simp [signsL])).s
  split
  · exact (lex_sign (w := [45, 62]) (by simp [signsL])).s
  · exact (lex_sign (w := [60, 45, 62]) (by simp [signsL])).s
theorem lex_text : ∀ t : T, mayT t = true → LexS (textT t) (tk t) := by
  refine kid_induct ?_
  intro t ih h
  rw [textT_eq, tk_eq]
  rcases may_shape h with ⟨hk, hn, hl⟩ | ⟨hk, hn, hl⟩ | ⟨hk, hn, a, hl, ha⟩ | ⟨hk, hn, a, b, hl, ha, hb⟩
  · rcases hk with hk | hk
    · rw [hk]
      exact lex_word (by decide) (by decide) (by decide)
    · rw [hk]
      exact lex_word (by decide) (by decide) (by decide)
  · rw [if_neg (by omega), if_neg (by omega), if_pos hk, if_neg (by omega), if_neg (by omega), if_pos hk]
    have e := name_said hn
    obtain ⟨c, r, hx, hc, hr, hl, _⟩ := name_word hn
    rw [hx] at e ⊢
    have := lex_word hc hr hl
    rwa [e] at this
  · rw [if_neg (by omega), if_neg (by omega), if_neg (by omega), if_neg (by omega), if_neg (by omega), if_neg (by omega), hl, textL_one, tkL_one]
    exact LexA.appS (lex_pre _) (lex_within (ih a (by rw [hl]; simp) ha))
  · rw [if_neg (by omega), if_neg (by omega), if_neg (by omega), if_neg (by omega), if_neg (by omega), if_neg (by omega), hl, textL_two, tkL_two]
    exact LexA.appS (LexS.appA (lex_within (ih a (by rw [hl]; simp) ha)) (lex_op _) (fun s => rfl)) (lex_within (ih b (by rw [hl]; simp) hb))
theorem no_op_end : ∀ m, opOf m [] = none := by
  intro m
  unfold opOf
  repeat' split
  all_goals first | rfl | (exfalso; rename_i h2; exact absurd h2 (by decide))
theorem no_op_par : ∀ m, opOf m [41] = none := by
  intro m
  unfold opOf
  repeat' split
  all_goals first | rfl | (exfalso; rename_i h2; exact absurd h2 (by decide))
/-- No operator of a level from n on stands first. -/
def noOp (n : Nat) (rest : List Tok) : Prop := ∃ x r, rest = x :: r ∧ ∀ m, n ≤ m → m ≤ 4 → opOf m x.1 = none
theorem noOp.mono {n m : Nat} {rest : List Tok} (h : noOp n rest) (hm : n ≤ m) : noOp m rest := by
  obtain ⟨x, r, e, h⟩ := h
  exact ⟨x, r, e, fun k hk hk4 => h k (by omega) hk4⟩
/-- Words are read as a formula, at a level. -/
def Okl (n : Nat) (t : T) (L : List Tok) : Prop :=
  (leftOf n = false → ∀ rest, noOp n rest → G (.lev n) (L ++ rest) (.ok t rest)) ∧ (leftOf n = true → ∀ rest o, noOp (n + 1) rest → G (.loop n t) rest o → G (.lev n) (L ++ rest) o)
theorem Okl.ok {n : Nat} {t : T} {L : List Tok} (h : Okl n t L) (hn : n ≤ 5) {rest : List Tok} (hr : noOp n rest) : G (.lev n) (L ++ rest) (.ok t rest) := by
  cases hl : leftOf n with
  | false => exact h.1 hl rest hr
  | true =>
    refine h.2 hl rest _ (hr.mono (by omega)) ?_
    obtain ⟨x, r, rfl, hx⟩ := hr
    have : n ≤ 4 := by unfold leftOf at hl; have := of_decide_eq_true hl; omega
    exact .stop hl (hx n (Nat.le_refl _) this)
theorem Okl.down {n : Nat} {t : T} {L : List Tok} (h : Okl (n + 1) t L) (hn : n ≤ 4) : Okl n t L := by
  refine ⟨fun hl rest hr => ?_, fun hl rest o hr hg => ?_⟩
  · have hg := h.ok (by omega) (hr.mono (by omega : n ≤ n + 1))
    obtain ⟨x, r, rfl, hx⟩ := hr
    exact .none hn hl hg (hx n (Nat.le_refl _) hn)
  · exact .left hn hl (h.ok (by omega) hr) hg
theorem Okl.to {t : T} {L : List Tok} : ∀ {n m : Nat}, Okl n t L → n ≤ 5 → m ≤ n → Okl m t L
  | 0, m, h, _, hm => by
    obtain rfl : m = 0 := by omega
    exact h
  | n + 1, m, h, hn, hm => by
    by_cases e : m = n + 1
    · subst e; exact h
    · exact Okl.to (h.down (by omega)) (by omega) (by omega)
theorem Okl.par {t : T} {L : List Tok} {x y : Tok} (h : Okl 0 t L) (hx : x.1 = [40]) (hy : y.1 = [41]) : Okl 5 t (x :: L ++ [y]) := by
  refine ⟨fun _ rest _ => ?_, fun hl => by cases hl⟩
  have hg := h.ok (by omega) (rest := y :: rest) ⟨y, rest, rfl, fun m _ _ => by rw [hy]; exact no_op_par m⟩
  show G (.lev 5) (x :: ((L ++ [y]) ++ rest)) _
  rw [List.append_assoc]
  exact .par hx hg hy
theorem words_append {L : List Tok} {ws vs : List (List UInt8)} (h : L.map (·.1) = ws ++ vs) : ∃ A B, L = A ++ B ∧ A.map (·.1) = ws ∧ B.map (·.1) = vs := List.map_eq_append_iff.1 h
theorem words_one {L : List Tok} {w : List UInt8} (h : L.map (·.1) = [w]) : ∃ x : Tok, L = [x] ∧ x.1 = w := by
  match L, h with
  | [x], h => exact ⟨x, rfl, by simpa using h⟩
/-- A kid's words. -/
theorem kid_okl {a : T} (ih : ∀ n : Nat, n ≤ 5 → (n : Int) ≤ rankK a.kind → ∀ L, L.map (·.1) = tk a → Okl n a L) {m : Nat} (hm : m ≤ 5) {L : List Tok} (h : L.map (·.1) = wk a.kind m (tk a)) : Okl m a L := by
  unfold wk at h
  split at h
  · obtain ⟨A, B, rfl, hA, hB⟩ := words_append h
    obtain ⟨C, D, rfl, hC, hD⟩ := words_append hA
    obtain ⟨x, rfl, hx⟩ := words_one hC
    obtain ⟨y, rfl, hy⟩ := words_one hB
    exact ((ih 0 (by omega) (by unfold rankK; repeat' split
                                all_goals omega) D hD).par hx hy).to (by omega) hm
  · exact ih m hm (by omega) L h
theorem text_okl : ∀ t : T, mayT t = true → ∀ n : Nat, n ≤ 5 → (n : Int) ≤ rankK t.kind → ∀ L, L.map (·.1) = tk t → Okl n t L := by
  refine kid_induct ?_
  intro t ih h n hn hr L hL
  rw [tk_eq] at hL
  have hatom : ∀ w, preOf w = none → atomOf w = some t → L.map (·.1) = [w] → Okl n t L := by
    intro w h1 h2 h3
    obtain ⟨x, rfl, rfl⟩ := words_one h3
    have : Okl 5 t [x] := ⟨fun _ rest _ => .atom h1 h2, fun hl => by cases hl⟩
    exact this.to (by omega) hn
  rcases may_shape h with ⟨hk, hnm, hl⟩ | ⟨hk, hnm, hl⟩ | ⟨hk, hnm, a, hl, ha⟩ | ⟨hk, hnm, a, b, hl, ha, hb⟩
  · cases t with
    | node k nm kids =>
      have hnm : nm = [] := hnm
      have hl : kids = [] := hl
      subst hnm hl
      have hk : k = 1 ∨ k = 2 := hk
      rcases hk with rfl | rfl
      · exact hatom _ (by decide) rfl hL
      · exact hatom _ (by decide) rfl hL
  · cases t with
    | node k nm kids =>
      have hl : kids = [] := hl
      have hk : k = 3 := hk
      subst hk hl
      have := name_atom (x := nm) hnm
      exact hatom nm this.1 this.2 hL
  · rw [if_neg (by omega), if_neg (by omega), if_neg (by omega), hl, tkL_one] at hL
    obtain ⟨A, B, rfl, hA, hB⟩ := words_append hL
    obtain ⟨x, rfl, hx⟩ := words_one hA
    have kid := kid_okl (m := 5) (ih a (by rw [hl]; simp) ha) (by omega) hB
    have : Okl 5 t ([x] ++ B) := by
      refine ⟨fun _ rest hrest => ?_, fun hl => by cases hl⟩
      have e : t = one t.kind a := by
        cases t
        have hnm := hnm
        have hl := hl
        simp [T.name, T.kids] at hnm hl
        subst hnm hl
        rfl
      have hg := G.pre (x := x) (k := t.kind) (by rw [hx]; unfold preOf preW; obtain ⟨h4, h7⟩ := hk; have : t.kind = 4 ∨ t.kind = 5 ∨ t.kind = 6 ∨ t.kind = 7 := by omega
                                                  rcases this with e | e | e | e <;> rw [e] <;> rfl) (kid.ok (by omega) hrest)
      rw [← e] at hg
      rw [List.append_assoc]
      exact hg
    exact this.to (by omega) hn
  · rw [if_neg (by omega), if_neg (by omega), if_neg (by omega), hl, tkL_two] at hL
    obtain ⟨AO, B, rfl, hAO, hB⟩ := words_append hL
    obtain ⟨A, O, rfl, hA, hO⟩ := words_append hAO
    obtain ⟨x, rfl, hx⟩ := words_one hO
    have e : t = two t.kind a b := by
      cases t
      have hnm := hnm
      have hl := hl
      simp [T.name, T.kids] at hnm hl
      subst hnm hl
      rfl
    have iha := ih a (by rw [hl]; simp) ha
    have ihb := ih b (by rw [hl]; simp) hb
    have right : ∀ (lv la lb : Nat) (k : Int), t.kind = k → leftOf lv = false → lv ≤ 4 → leftK k = (la : Int) → rightK k = (lb : Int) → rankK k = (lv : Int) → la = lv + 1 → lb = lv → opOf lv (opText k) = some k → (∀ m, la ≤ m → m ≤ 4 → opOf m (opText k) = none) → Okl n t (A ++ [x] ++ B) := by
      intro lv la lb k ek hlf hlv hla hlb hrk ela elb hop hno
      rw [ek] at hx hA hB hr e
      rw [hla] at hA
      rw [hlb] at hB
      subst ela elb
      have ka := kid_okl (m := lb + 1) iha (by omega) hA
      have kb := kid_okl (m := lb) ihb (by omega) hB
      have : Okl lb t (A ++ [x] ++ B) := by
        refine ⟨fun _ rest hrest => ?_, fun hl => by rw [hlf] at hl; cases hl⟩
        rw [e, List.append_assoc, List.append_assoc]
        refine .op_ok hlv hlf (ka.ok (by omega) (rest := [x] ++ (B ++ rest)) ⟨x, _, rfl, fun m h1 h2 => by rw [hx]; exact hno m h1 h2⟩) (by rw [hx]; exact hop) (kb.ok (by omega) hrest)
      exact this.to (by omega) (by omega)
    have left : ∀ (lv lb : Nat) (k : Int), t.kind = k → leftOf lv = true → lv ≤ 4 → leftK k = (lv : Int) → rightK k = (lb : Int) → rankK k = (lv : Int) → lb = lv + 1 → opOf lv (opText k) = some k → (∀ m, lb ≤ m → m ≤ 4 → opOf m (opText k) = none) → Okl n t (A ++ [x] ++ B) := by
      intro lv lb k ek hlf hlv hla hlb hrk elb hop hno
      rw [ek] at hx hA hB hr e
      rw [hla] at hA
      rw [hlb] at hB
      subst elb
      have ka := kid_okl (m := lv) iha (by omega) hA
      have kb := kid_okl (m := lv + 1) ihb (by omega) hB
      have : Okl lv t (A ++ [x] ++ B) := by
        refine ⟨(fun hl => by rw [hlf] at hl; cases hl), fun _ rest o hrest hg => ?_⟩
        rw [List.append_assoc, List.append_assoc]
        refine ka.2 hlf _ o ⟨x, _, rfl, fun m h1 h2 => by rw [hx]; exact hno m h1 h2⟩ ?_
        rw [e] at hg
        exact .go hlf (by rw [hx]; exact hop) (kb.ok (by omega) hrest) hg
      exact this.to (by omega) (by omega)
    have hk' : t.kind = 8 ∨ t.kind = 9 ∨ t.kind = 10 ∨ t.kind = 11 ∨ t.kind = 12 ∨ t.kind = 13 ∨ t.kind = 14 := by omega
    rcases hk' with ek | ek | ek | ek | ek | ek | ek
    · exact left 3 4 8 ek rfl (by omega) rfl rfl rfl rfl rfl (fun m h1 h2 => by obtain rfl : m = 4 := by omega
                                                                                rfl)
    · exact left 2 3 9 ek rfl (by omega) rfl rfl rfl rfl rfl (fun m h1 h2 => by have : m = 3 ∨ m = 4 := by omega
                                                                                rcases this with rfl | rfl <;> rfl)
    · exact right 1 2 1 10 ek rfl (by omega) rfl rfl rfl rfl rfl rfl (fun m h1 h2 => by have : m = 2 ∨ m = 3 ∨ m = 4 := by omega
                                                                                        rcases this with rfl | rfl | rfl <;> rfl)
    · exact right 0 1 0 11 ek rfl (by omega) rfl rfl rfl rfl rfl rfl (fun m h1 h2 => by have : m = 1 ∨ m = 2 ∨ m = 3 ∨ m = 4 := by omega
                                                                                        rcases this with rfl | rfl | rfl | rfl <;> rfl)
    · exact right 4 5 4 12 ek rfl (by omega) rfl rfl rfl rfl rfl rfl (fun m h1 h2 => by omega)
    · exact right 4 5 4 13 ek rfl (by omega) rfl rfl rfl rfl rfl rfl (fun m h1 h2 => by omega)
    · exact right 4 5 4 14 ek rfl (by omega) rfl rfl rfl rfl rfl rfl (fun m h1 h2 => by omega)
/-- A text of a formula's words is the formula. -/
theorem PR_reads {s : List UInt8} {t : T} (hs : s.length ≤ 4096) (hr : Reads s (tk t)) (hm : mayT t = true) (hd : depthT t ≤ 100) : PR s (.ok t) := by
  obtain ⟨l, hl, hw⟩ := hr 0
  have hk := text_okl t hm 0 (by omega) (by unfold rankK; repeat' split
                                            all_goals omega) l hw
  exact .ok hs hl (hk.ok (by omega) (rest := [([], s.length)]) ⟨_, _, rfl, fun m _ _ => no_op_end m⟩) rfl hd
theorem PR_text {t : T} (hm : mayT t = true) (hd : depthT t ≤ 100) (hl : (textT t).length ≤ 4096) : PR (textT t) (.ok t) := PR_reads hl (lex_text t hm).reads hm hd
end Go.Proofs.YtkgfdgfhpdhhaaaGreat
namespace Go.Proofs.YtkgfdgfhpdhhaaaGreat

/-- Words that follow, alike to the grammar. -/
def Flw (l l' : List Tok) : Prop := ∃ x r x' r', l = x :: r ∧ l' = x' :: r' ∧ (x.1 = x'.1 ∨ ((∀ m, opOf m x.1 = none) ∧ ∀ m, opOf m x'.1 = none))
theorem Flw.op {x x' : Tok} {r r' : List Tok} (h : Flw (x :: r) (x' :: r')) {n : Nat} (ho : opOf n x.1 = none) : opOf n x'.1 = none := by
  obtain ⟨_, _, _, _, e, e', h⟩ := h
  cases e
  cases e'
  rcases h with h | h
  · rw [← h]; exact ho
  · exact h.2 n
theorem Flw.cons {l l' : List Tok} (h : Flw l l') : ∃ x' r', l' = x' :: r' := by
  obtain ⟨_, _, x', r', _, e', _⟩ := h
  exact ⟨x', r', e'⟩
def Moves (m : Mode) (l : List Tok) : Out → Prop
  | .ok t l2 => ∃ c, l = c ++ l2 ∧ ∀ c' l2', c'.map (·.1) = c.map (·.1) → Flw l2 l2' → G m (c' ++ l2') (.ok t l2')
  | .err _ => True
theorem same_cons {c' : List Tok} {x : Tok} {c : List Tok} (h : c'.map (·.1) = (x :: c).map (·.1)) : ∃ x' c1, c' = x' :: c1 ∧ x'.1 = x.1 ∧ c1.map (·.1) = c.map (·.1) := by
  cases c' with
  | nil => simp at h
  | cons x' c1 =>
    simp at h
    exact ⟨x', c1, rfl, h.1, h.2⟩
theorem same_app {c' a b : List Tok} (h : c'.map (·.1) = (a ++ b).map (·.1)) : ∃ a' b', c' = a' ++ b' ∧ a'.map (·.1) = a.map (·.1) ∧ b'.map (·.1) = b.map (·.1) := by
  rw [List.map_append] at h
  exact List.map_eq_append_iff.1 h
theorem flw_cons {x x' : Tok} (h : x'.1 = x.1) (r r' : List Tok) : Flw (x :: r) (x' :: r') := ⟨x, r, x', r', rfl, rfl, .inl h.symm⟩
theorem G_moves {m : Mode} {l : List Tok} {o : Out} (h : G m l o) : Moves m l o := by
  induction h with
  | down_err => trivial
  | none hn hl _ ho ih =>
    obtain ⟨c, e, k⟩ := ih
    refine ⟨c, e, fun c' l2' hc hf => ?_⟩
    obtain ⟨x', r', rfl⟩ := hf.cons
    exact .none hn hl (k c' _ hc hf) (hf.op ho)
  | op_err => trivial
  | @op_ok _ _ _ _ x _ _ _ hn hl _ ho _ ih ih2 =>
    obtain ⟨c, rfl, k⟩ := ih
    obtain ⟨d, rfl, k2⟩ := ih2
    refine ⟨c ++ (x :: d), by simp, fun c' l2' hc hf => ?_⟩
    obtain ⟨a', b', rfl, ha, hb⟩ := same_app hc
    obtain ⟨x', b1, rfl, hx, hb1⟩ := same_cons hb
    rw [List.append_assoc, List.cons_append]
    exact .op_ok hn hl (k a' _ ha (flw_cons hx _ _)) (by rw [hx]; exact ho) (k2 b1 l2' hb1 hf)
  | @left n l t l' o hn hl hg1 hg2 ih ih2 =>
    cases o with
    | err e => trivial
    | ok u l2 =>
      obtain ⟨c, rfl, k⟩ := ih
      obtain ⟨d, rfl, k2⟩ := ih2
      refine ⟨c ++ d, by simp, fun c' l2' hc hf => ?_⟩
      obtain ⟨a', b', rfl, ha, hb⟩ := same_app hc
      have h2 := k2 b' l2' hb hf
      rw [List.append_assoc]
      refine .left hn hl (k a' _ ha ?_) h2
      cases d with
      | nil =>
        obtain rfl : b' = [] := by simpa using hb
        exact hf
      | cons x d =>
        obtain ⟨x', b1, rfl, hx, _⟩ := same_cons hb
        exact flw_cons hx _ _
  | stop hl ho =>
    refine ⟨[], rfl, fun c' l2' hc hf => ?_⟩
    obtain rfl : c' = [] := by simpa using hc
    obtain ⟨x', r', rfl⟩ := hf.cons
    exact .stop hl (hf.op ho)
  | go_err => trivial
  | @go n t u x l l' k o hl ho hg1 hg2 ih ih2 =>
    cases o with
    | err e => trivial
    | ok v l2 =>
      obtain ⟨c, rfl, k⟩ := ih
      obtain ⟨d, rfl, k2⟩ := ih2
      refine ⟨x :: (c ++ d), by simp, fun c' l2' hc hf => ?_⟩
      obtain ⟨x', c1, rfl, hx, hc1⟩ := same_cons hc
      obtain ⟨a', b', rfl, ha, hb⟩ := same_app hc1
      have h2 := k2 b' l2' hb hf
      rw [List.cons_append, List.append_assoc]
      refine .go hl (by rw [hx]; exact ho) (k a' _ ha ?_) h2
      cases d with
      | nil =>
        obtain rfl : b' = [] := by simpa using hb
        exact hf
      | cons y d =>
        obtain ⟨y', b1, rfl, hy, _⟩ := same_cons hb
        exact flw_cons hy _ _
  | pre_err => trivial
  | @pre x _ _ _ _ hp _ ih =>
    obtain ⟨c, rfl, k⟩ := ih
    refine ⟨x :: c, rfl, fun c' l2' hc hf => ?_⟩
    obtain ⟨x', c1, rfl, hx, hc1⟩ := same_cons hc
    exact .pre (by rw [hx]; exact hp) (k c1 l2' hc1 hf)
  | @atom x _ _ hp ha =>
    refine ⟨[x], rfl, fun c' l2' hc _ => ?_⟩
    obtain ⟨x', c1, rfl, hx, hc1⟩ := same_cons hc
    obtain rfl : c1 = [] := by simpa using hc1
    exact .atom (by rw [hx]; exact hp) (by rw [hx]; exact ha)
  | par_err => trivial
  | par_not => trivial
  | @par x y l l' t hx _ hy ih =>
    obtain ⟨c, rfl, k⟩ := ih
    refine ⟨x :: (c ++ [y]), by simp, fun c' l2' hc _ => ?_⟩
    obtain ⟨x', c1, rfl, hx', hc1⟩ := same_cons hc
    obtain ⟨a', b', rfl, ha, hb⟩ := same_app hc1
    obtain ⟨y', b1, rfl, hy', hb1⟩ := same_cons hb
    obtain rfl : b1 = [] := by simpa using hb1
    rw [List.cons_append, List.append_assoc]
    exact .par (by rw [hx']; exact hx) (k a' _ ha (flw_cons hy' _ _)) (by rw [hy']; exact hy)
  | bad => trivial
/-- What is read by itself is read, at the loosest level, ahead of whatever is no operator. -/
def Whole (t : T) (ws : List (List UInt8)) : Prop := ∀ L, L.map (·.1) = ws → ∀ rest x r, rest = x :: r → (∀ m, opOf m x.1 = none) → G (.lev 0) (L ++ rest) (.ok t rest)
theorem PR_whole {s : List UInt8} {t : T} (h : PR s (.ok t)) : s.length ≤ 4096 ∧ depthT t ≤ 100 ∧ mayT t = true ∧ ∃ ws, LexS s ws ∧ Whole t ws := by
  cases h with
  | @ok l _ x l' h1 h2 h3 h4 h5 =>
    have hm : mayT t = true := G_may h3 trivial
    refine ⟨h1, h5, hm, _, lex_toks s.length s 0 l (Nat.le_refl _) h2, fun L hL rest y r hrest hy => ?_⟩
    obtain ⟨c, e, k⟩ := G_moves h3
    have hE := toks_ends h2 s.length
    obtain ⟨l0, n, e2, hne⟩ := hE
    -- the rest is the end alone
    have hl' : l' = [] := by
      have e3 : c ++ x :: l' = l ++ [([], s.length)] := e.symm
      rcases List.eq_nil_or_concat l' with rfl | ⟨l1, z, rfl⟩
      · rfl
      · exfalso
        have hx : x ∈ l := by
          rw [List.concat_eq_append, ← List.cons_append, ← List.append_assoc] at e3
          have := (List.append_inj' e3 rfl).1
          rw [← this]; simp
        exact toksF_ne _ _ _ _ h2 x hx h4
    subst hl'
    have e3 : c = l := (List.append_inj' (show c ++ [x] = l ++ [([], s.length)] from e.symm) rfl).1
    subst e3
    refine k L rest hL ⟨x, [], y, r, rfl, hrest, .inr ⟨fun m => by rw [h4]; exact no_op_end m, hy⟩⟩
theorem PR_of_whole {s : List UInt8} {t : T} {ws : List (List UInt8)} (hs : s.length ≤ 4096) (hr : Reads s ws) (hw : Whole t ws) : PR s (if 100 < depthT t then .err (93, 0) else .ok t) := by
  obtain ⟨l, hl, hm⟩ := hr 0
  have hg := hw l hm [([], s.length)] _ [] rfl no_op_end
  split
  · exact .deep hs hl hg rfl (by assumption)
  · exact .ok hs hl hg rfl (by omega)
theorem Whole.par {t : T} {ws : List (List UInt8)} (h : Whole t ws) {L : List Tok} (hL : L.map (·.1) = [[40]] ++ ws ++ [[41]]) (rest : List Tok) : G (.lev 5) (L ++ rest) (.ok t rest) := by
  obtain ⟨A, B, rfl, hA, hB⟩ := words_append hL
  obtain ⟨C, D, rfl, hC, hD⟩ := words_append hA
  obtain ⟨x, rfl, hx⟩ := words_one hC
  obtain ⟨y, rfl, hy⟩ := words_one hB
  rw [List.append_assoc, List.append_assoc]
  exact .par hx (h D hD ([y] ++ rest) y rest rfl (fun m => by rw [hy]; exact no_op_par m)) hy
theorem Whole.okl {t : T} {ws : List (List UInt8)} (h : Whole t ws) {L : List Tok} (hL : L.map (·.1) = [[40]] ++ ws ++ [[41]]) {m : Nat} (hm : m ≤ 5) : Okl m t L :=
  Okl.to (n := 5) ⟨fun _ rest _ => h.par hL rest, fun hl => by cases hl⟩ (by omega) hm
/-- In parentheses. -/
theorem Whole.around {t : T} {ws : List (List UInt8)} (h : Whole t ws) : Whole t ([[40]] ++ ws ++ [[41]]) := by
  intro L hL rest x r e hx
  exact (h.okl hL (m := 0) (by omega)).ok (by omega) ⟨x, r, e, fun m _ _ => hx m⟩
/-- Two in parentheses, an operator between. -/
theorem Whole.op {a b : T} {wa wb : List (List UInt8)} (ha : Whole a wa) (hb : Whole b wb) {k : Int} (hk : 8 ≤ k ∧ k ≤ 14) : Whole (two k a b) (([[40]] ++ wa ++ [[41]]) ++ [opText k] ++ ([[40]] ++ wb ++ [[41]])) := by
  intro L hL rest y r e hy
  obtain ⟨AO, B, rfl, hAO, hB⟩ := words_append hL
  obtain ⟨A, O, rfl, hA, hO⟩ := words_append hAO
  obtain ⟨x, rfl, hx⟩ := words_one hO
  have hrest : noOp 0 rest := ⟨y, r, e, fun m _ _ => hy m⟩
  have key : ∀ lv : Nat, lv ≤ 4 → opOf lv (opText k) = some k → (∀ m, lv < m → m ≤ 4 → opOf m (opText k) = none) → G (.lev 0) (A ++ [x] ++ B ++ rest) (.ok (two k a b) rest) := by
    intro lv hlv hop hno
    have : Okl lv (two k a b) (A ++ [x] ++ B) := by
      refine ⟨fun hl rest hrest => ?_, fun hl rest o hrest hg => ?_⟩
      · rw [List.append_assoc, List.append_assoc]
        exact .op_ok hlv hl ((ha.okl hA (m := lv + 1) (by omega)).ok (by omega) (rest := [x] ++ (B ++ rest)) ⟨x, _, rfl, fun m h1 h2 => by rw [hx]; exact hno m (by omega) h2⟩) (by rw [hx]; exact hop) ((hb.okl hB (m := lv) (by omega)).ok (by omega) hrest)
      · rw [List.append_assoc, List.append_assoc]
        refine (ha.okl hA (m := lv) (by omega)).2 hl _ o ⟨x, _, rfl, fun m h1 h2 => by rw [hx]; exact hno m (by omega) h2⟩ ?_
        exact .go hl (by rw [hx]; exact hop) ((hb.okl hB (m := lv + 1) (by omega)).ok (by omega) hrest) hg
    exact (this.to (m := 0) (by omega) (by omega)).ok (by omega) hrest
  have hk' : k = 8 ∨ k = 9 ∨ k = 10 ∨ k = 11 ∨ k = 12 ∨ k = 13 ∨ k = 14 := by omega
  have no : ∀ lv k, (∀ m, m ≤ 4 → lv < m → opOf m (opText k) = none) → ∀ m, lv < m → m ≤ 4 → opOf m (opText k) = none := fun lv k h m h1 h2 => h m h2 h1
  rcases hk' with rfl | rfl | rfl | rfl | rfl | rfl | rfl
  · exact key 3 (by omega) rfl (no 3 8 (by decide))
  · exact key 2 (by omega) rfl (no 2 9 (by decide))
  · exact key 1 (by omega) rfl (no 1 10 (by decide))
  · exact key 0 (by omega) rfl (no 0 11 (by decide))
  · exact key 4 (by omega) rfl (no 4 12 (by decide))
  · exact key 4 (by omega) rfl (no 4 13 (by decide))
  · exact key 4 (by omega) rfl (no 4 14 (by decide))
/-- A sign ahead. -/
theorem whole_name {w : List UInt8} {t : T} (h1 : preOf w = none) (h2 : atomOf w = some t) : ∀ (L : List Tok), L.map (·.1) = [w] → ∀ rest, G (.lev 5) (L ++ rest) (.ok t rest) := by
  intro L hL rest
  obtain ⟨x, rfl, rfl⟩ := words_one hL
  exact .atom h1 h2
theorem whole_of5 {t : T} {ws : List (List UInt8)} (h : ∀ (L : List Tok), L.map (·.1) = ws → ∀ rest, rest ≠ [] → G (.lev 5) (L ++ rest) (.ok t rest)) : Whole t ws := by
  intro L hL rest x r e hx
  have : Okl 5 t L := ⟨fun _ rest hr => h L hL rest (by obtain ⟨y, s, e, _⟩ := hr; rw [e]; simp), fun hl => by cases hl⟩
  exact (this.to (m := 0) (by omega) (by omega)).ok (by omega) ⟨x, r, e, fun m _ _ => hx m⟩
end Go.Proofs.YtkgfdgfhpdhhaaaGreat
namespace Go.Proofs.YtkgfdgfhpdhhaaaGreat

theorem wrong_code (x : Tok) : (wrongAt x).1 ≠ 0 ∧ (wrongAt x).2 = x.2 := by
  unfold wrongAt
  refine ⟨?_, rfl⟩
  show (if x.1 = [] then (91 : Int) else 92) ≠ 0
  split <;> omega
/-- What is left of words are words; an error is at one of them. -/
def Inl (l : List Tok) : Out → Prop
  | .ok _ l2 => ∀ x ∈ l2, x ∈ l
  | .err e => e.1 ≠ 0 ∧ ∃ x ∈ l, e.2 = x.2
theorem G_in {m : Mode} {l : List Tok} {o : Out} (h : G m l o) : Inl l o := by
  induction h with
  | down_err _ _ ih => exact ih
  | none _ _ _ _ ih => exact ih
  | op_err _ _ _ _ _ ih ih2 =>
    obtain ⟨h1, x, hx, e⟩ := ih2
    exact ⟨h1, x, ih x (List.mem_cons_of_mem _ hx), e⟩
  | op_ok _ _ _ _ _ ih ih2 => exact fun x hx => ih x (List.mem_cons_of_mem _ (ih2 x hx))
  | @left n l t l' o _ _ _ _ ih ih2 =>
    cases o with
    | err e =>
      obtain ⟨h1, x, hx, e⟩ := ih2
      exact ⟨h1, x, ih x hx, e⟩
    | ok u l2 => exact fun x hx => ih x (ih2 x hx)
  | stop => exact fun x hx => hx
  | go_err _ _ _ ih =>
    obtain ⟨h1, x, hx, e⟩ := ih
    exact ⟨h1, x, List.mem_cons_of_mem _ hx, e⟩
  | @go n t u x l l' k o _ _ _ _ ih ih2 =>
    cases o with
    | err e =>
      obtain ⟨h1, y, hy, e⟩ := ih2
      exact ⟨h1, y, List.mem_cons_of_mem _ (ih y hy), e⟩
    | ok v l2 => exact fun y hy => List.mem_cons_of_mem _ (ih y (ih2 y hy))
  | pre_err _ _ ih =>
    obtain ⟨h1, x, hx, e⟩ := ih
    exact ⟨h1, x, List.mem_cons_of_mem _ hx, e⟩
  | pre _ _ ih => exact fun x hx => List.mem_cons_of_mem _ (ih x hx)
  | atom _ _ => exact fun x hx => List.mem_cons_of_mem _ hx
  | par_err _ _ ih =>
    obtain ⟨h1, x, hx, e⟩ := ih
    exact ⟨h1, x, List.mem_cons_of_mem _ hx, e⟩
  | @par_not x y l l' t _ _ _ ih => exact ⟨(wrong_code y).1, y, List.mem_cons_of_mem _ (ih y List.mem_cons_self), (wrong_code y).2⟩
  | par _ _ _ ih => exact fun x hx => List.mem_cons_of_mem _ (ih x (List.mem_cons_of_mem _ hx))
  | @bad x l _ _ _ => exact ⟨(wrong_code x).1, x, List.mem_cons_self, (wrong_code x).2⟩
theorem toksF_pos : ∀ (f p : Nat) (s : List UInt8), (∀ l, toksF f p s = .ok l → ∀ x ∈ l, x.2 ≤ p + s.length) ∧ (∀ q, toksF f p s = .error q → q ≤ p + s.length)
  | f, p, [] => by
    have : toksF f p ([] : List UInt8) = .ok [] := by cases f <;> rfl
    rw [this]
    exact ⟨(fun l h x hx => by cases h; cases hx), (fun q h => by cases h)⟩
  | 0, p, _ :: _ => ⟨(fun l h x hx => by cases h; cases hx), (fun q h => by cases h)⟩
  | f + 1, p, c :: r => by
    rw [toksF]
    split
    · have ih := toksF_pos f (p + 1) r
      rw [List.length_cons]
      exact ⟨(fun l h x hx => by have := ih.1 l h x hx; omega), (fun q h => by have := ih.2 q h; omega)⟩
    · split
      · exact ⟨(fun l h => by cases h), (fun q h => by cases h; omega)⟩
      · have hle := firstL_length (c :: r)
        have ih := toksF_pos f (p + (firstL (c :: r)).length) ((c :: r).drop (firstL (c :: r)).length)
        rw [List.length_drop] at ih
        generalize toksF f (p + (firstL (c :: r)).length) ((c :: r).drop (firstL (c :: r)).length) = q at ih ⊢
        cases q with
        | error e => exact ⟨(fun l h => by cases h), (fun q h => by cases h; have := ih.2 _ rfl; omega)⟩
        | ok l2 =>
          refine ⟨fun l h x hx => ?_, fun q h => by cases h⟩
          cases h
          rcases List.mem_cons.1 hx with rfl | hx
          · exact Nat.le_add_right _ _
          · have := ih.1 l2 rfl x hx; omega
/-- A refusal has a code and a place in the text. -/
theorem PR_err_pos {s : List UInt8} {e : Int × Nat} (h : PR s (.err e)) : e.1 ≠ 0 ∧ e.2 ≤ s.length := by
  have inl : ∀ {l : List Tok} {e : Int × Nat}, toks 0 s = .ok l → G (.lev 0) (l ++ [([], s.length)]) (.err e) → e.1 ≠ 0 ∧ e.2 ≤ s.length := by
    intro l e hl hg
    obtain ⟨h1, x, hx, e2⟩ := G_in hg
    refine ⟨h1, ?_⟩
    rw [e2]
    rcases List.mem_append.1 hx with hx | hx
    · have := (toksF_pos _ _ _).1 l hl x hx; omega
    · obtain rfl : x = _ := by simpa using hx
      exact Nat.le_refl _
  cases h with
  | long _ => exact ⟨by decide, Nat.zero_le _⟩
  | token h1 h2 => exact ⟨by show (90 : Int) ≠ 0; decide, by have := (toksF_pos _ _ _).2 _ h2; show _ ≤ _; omega⟩
  | gram h1 h2 h3 => exact inl h2 h3
  | @more l t x l' h1 h2 h3 h4 =>
    refine ⟨by show (92 : Int) ≠ 0; decide, ?_⟩
    show x.2 ≤ s.length
    have hx := G_in h3 x List.mem_cons_self
    rcases List.mem_append.1 hx with hx | hx
    · have := (toksF_pos _ _ _).1 l h2 x hx; omega
    · obtain rfl : x = _ := by simpa using hx
      exact Nat.le_refl _
  | deep _ _ _ _ _ => exact ⟨by decide, Nat.zero_le _⟩
theorem PR_ok_size {s : List UInt8} {t : T} (h : PR s (.ok t)) : sizeT t ≤ 5000 ∧ mayT t = true ∧ depthT t ≤ 100 := by
  cases h with
  | @ok l _ x l' h1 h2 h3 h4 h5 =>
    have hs := G_lev_size h3
    have hc := toksF_count _ _ _ _ h2
    rw [List.length_append] at hs
    simp only [List.length_cons, List.length_nil] at hs
    exact ⟨by omega, G_may h3 trivial, h5⟩
theorem PR_total {s : List UInt8} {t : T} {r : Res} (h : PR s r) (hr : r = .ok t) : PR s (.ok t) := hr ▸ h
end Go.Proofs.YtkgfdgfhpdhhaaaGreat
