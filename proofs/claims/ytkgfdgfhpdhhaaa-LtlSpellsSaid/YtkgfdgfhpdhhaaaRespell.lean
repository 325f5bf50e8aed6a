/- A text spelled with words instead of signs, with other blanks: its words stay, plain. Conditions: none. -/
import Derived.Test.YtkgfdgfhpdhhaaaKnown
namespace Go.Proofs.Ytkgfdgfhpdhhaaa

def spS : List (List UInt8) := [[91, 93], [60, 62], [38, 38], [124, 124]]
def spW (w : List UInt8) : List UInt8 := if w = [91, 93] then [32, 97, 108, 119, 97, 121, 115, 32] else if w = [60, 62] then [32, 101, 118, 101, 110, 116, 117, 97, 108, 108, 121, 32] else if w = [38, 38] then [47, 92] else [92, 47]
/-- A text, spelled so. -/
inductive Sp : List UInt8 → List UInt8 → Prop where
  | nil : Sp [] []
  | sign {w s o : List UInt8} : w ∈ spS → Sp s o → Sp (w ++ s) (w ++ o)
  | word {w s o : List UInt8} : w ∈ spS → Sp s o → Sp (w ++ s) (spW w ++ o)
  | blank {s o : List UInt8} : Sp s o → Sp (32 :: s) ([9, 32, 10] ++ o)
  | same {c : UInt8} {s o : List UInt8} : (∀ w ∈ spS, ¬ w <+: c :: s) → Sp s o → Sp (c :: s) (c :: o)
theorem sp_inv {u o : List UInt8} (h : Sp u o) : (u = [] ∧ o = []) ∨ (∃ w s o', w ∈ spS ∧ u = w ++ s ∧ Sp s o' ∧ (o = w ++ o' ∨ o = spW w ++ o')) ∨ (∃ s o', u = 32 :: s ∧ o = [9, 32, 10] ++ o' ∧ Sp s o') ∨ (∃ c s o', u = c :: s ∧ o = c :: o' ∧ (∀ w ∈ spS, ¬ w <+: c :: s) ∧ Sp s o') := by
  cases h with
  | nil => exact .inl ⟨rfl, rfl⟩
  | sign hw h => exact .inr (.inl ⟨_, _, _, hw, rfl, h, .inl rfl⟩)
  | word hw h => exact .inr (.inl ⟨_, _, _, hw, rfl, h, .inr rfl⟩)
  | blank h => exact .inr (.inr (.inl ⟨_, _, rfl, rfl, h⟩))
  | same hn h => exact .inr (.inr (.inr ⟨_, _, _, rfl, rfl, hn, h⟩))
theorem spS_len {w : List UInt8} (h : w ∈ spS) : w.length = 2 := by
  simp only [spS, List.mem_cons, List.not_mem_nil, or_false] at h
  rcases h with rfl | rfl | rfl | rfl <;> rfl
theorem spS_head {w : List UInt8} (h : w ∈ spS) : ∃ c d, w = [c, d] ∧ (c = 91 ∨ c = 60 ∨ c = 38 ∨ c = 124) ∧ (d = 93 ∨ d = 62 ∨ d = 38 ∨ d = 124) := by
  simp only [spS, List.mem_cons, List.not_mem_nil, or_false] at h
  rcases h with rfl | rfl | rfl | rfl
  · exact ⟨91, 93, rfl, by simp, by simp⟩
  · exact ⟨60, 62, rfl, by simp, by simp⟩
  · exact ⟨38, 38, rfl, by simp, by simp⟩
  · exact ⟨124, 124, rfl, by simp, by simp⟩
theorem sp_sign {w s o : List UInt8} (hw : w ∈ spS) (h : Sp (w ++ s) o) : ∃ o', Sp s o' ∧ (o = w ++ o' ∨ o = spW w ++ o') := by
  rcases sp_inv h with ⟨h1, _⟩ | ⟨w', s', o', hw', e, hs, ho⟩ | ⟨s', o', e, _, _⟩ | ⟨c, s', o', e, _, hn, _⟩
  · have := spS_len hw
    rw [List.append_eq_nil_iff.1 h1 |>.1] at this
    cases this
  · obtain ⟨rfl, rfl⟩ := List.append_inj e (by rw [spS_len hw, spS_len hw'])
    exact ⟨o', hs, ho⟩
  · obtain ⟨c, d, rfl, hc, _⟩ := spS_head hw
    have e1 : c = 32 := by injection e
    rcases hc with rfl | rfl | rfl | rfl <;> cases e1
  · exact absurd (e ▸ List.prefix_append _ _) (hn w hw)
theorem sp_same {c : UInt8} {s o : List UInt8} (hn : ∀ w ∈ spS, ¬ w <+: c :: s) (h32 : c ≠ 32) (h : Sp (c :: s) o) : ∃ o', Sp s o' ∧ o = c :: o' := by
  rcases sp_inv h with ⟨h1, _⟩ | ⟨w', s', o', hw', e, _, _⟩ | ⟨s', o', e, _, _⟩ | ⟨d, s', o', e, ho, _, hs⟩
  · cases h1
  · exact absurd (e ▸ List.prefix_append _ _) (hn w' hw')
  · cases e; exact absurd rfl h32
  · cases e; exact ⟨o', hs, ho⟩
theorem no_head {c : UInt8} (h : c ≠ 91 ∧ c ≠ 60 ∧ c ≠ 38 ∧ c ≠ 124) (s : List UInt8) : ∀ w ∈ spS, ¬ w <+: c :: s := by
  intro w hw hp
  obtain ⟨a, d, rfl, ha, _⟩ := spS_head hw
  have e : a = c := (List.cons_prefix_cons.1 hp).1
  subst e
  rcases ha with rfl | rfl | rfl | rfl
  · exact h.1 rfl
  · exact h.2.1 rfl
  · exact h.2.2.1 rfl
  · exact h.2.2.2 rfl
theorem sp_calm {c : UInt8} (h : c ≠ 91 ∧ c ≠ 60 ∧ c ≠ 38 ∧ c ≠ 124) (h32 : c ≠ 32) {s o : List UInt8} (hs : Sp (c :: s) o) : ∃ o', Sp s o' ∧ o = c :: o' := sp_same (no_head h s) h32 hs
theorem name_calm {c : UInt8} (h : nameC c = true) : (c ≠ 91 ∧ c ≠ 60 ∧ c ≠ 38 ∧ c ≠ 124) ∧ c ≠ 32 := by
  refine ⟨⟨?_, ?_, ?_, ?_⟩, ?_⟩ <;> (rintro rfl; revert h; decide)
theorem sp_name : ∀ {w s o : List UInt8}, w.all nameC = true → Sp (w ++ s) o → ∃ o', Sp s o' ∧ o = w ++ o'
  | [], _, o, _, h => ⟨o, h, rfl⟩
  | c :: w, s, o, hw, h => by
    rw [List.all_cons, Bool.and_eq_true] at hw
    obtain ⟨hc, h32⟩ := name_calm hw.1
    obtain ⟨o1, h1, rfl⟩ := sp_calm hc h32 h
    obtain ⟨o2, h2, rfl⟩ := sp_name hw.2 h1
    exact ⟨o2, h2, rfl⟩
theorem sp_blank {c : UInt8} {s o : List UInt8} (hc : blankB c = true) (h : Sp (c :: s) o) : ∃ bs o', (∀ d ∈ bs, blankB d = true) ∧ o = bs ++ o' ∧ Sp s o' := by
  rcases sp_inv h with ⟨h1, _⟩ | ⟨w', s', o', hw', e, _, _⟩ | ⟨s', o', e, ho, hs⟩ | ⟨d, s', o', e, ho, _, hs⟩
  · cases h1
  · obtain ⟨a, d, rfl, ha, _⟩ := spS_head hw'
    have e1 : c = a := by injection e
    subst e1
    rcases ha with rfl | rfl | rfl | rfl <;> exact absurd hc (by decide)
  · cases e
    exact ⟨[9, 32, 10], o', by decide, ho, hs⟩
  · cases e
    exact ⟨[c], o', (fun x hx => by obtain rfl : x = c := by simpa using hx
                                    exact hc), ho, hs⟩
/-- A text at whose beginning no name goes on. -/
def stopN (s : List UInt8) : Prop := ∀ c, s.head? = some c → nameC c = false
theorem sp_head {s o : List UInt8} (h : Sp s o) (hs : stopN s) : stopN o := by
  rcases sp_inv h with ⟨_, rfl⟩ | ⟨w', s', o', hw', e, _, ho⟩ | ⟨s', o', e, rfl, _⟩ | ⟨d, s', o', rfl, rfl, _, _⟩
  · intro c hc; cases hc
  · intro c hc
    simp only [spS, List.mem_cons, List.not_mem_nil, or_false] at hw'
    rcases hw' with rfl | rfl | rfl | rfl <;> rcases ho with rfl | rfl <;> (simp [spW] at hc; subst hc; decide)
  · intro c hc; cases hc; decide
  · intro c hc; cases hc; exact hs d rfl
theorem while_stopN : ∀ {r s : List UInt8}, r.all nameC = true → stopN s → (r ++ s).takeWhile nameC = r
  | [], [], _, _ => rfl
  | [], c :: s, _, h => by rw [List.nil_append, List.takeWhile_cons, h c rfl]; rfl
  | c :: r, s, hr, h => by
    rw [List.all_cons, Bool.and_eq_true] at hr
    rw [List.cons_append, List.takeWhile_cons, hr.1, if_pos rfl, while_stopN hr.2 h]
theorem all_while (r : List UInt8) : (r.takeWhile nameC).all nameC = true := by
  rw [List.all_eq_true]
  intro x hx
  induction r with
  | nil => cases hx
  | cons c r ih =>
    rw [List.takeWhile_cons] at hx
    split at hx
    · rcases List.mem_cons.1 hx with rfl | hx
      · assumption
      · exact ih hx
    · cases hx
theorem drop_while : ∀ r : List UInt8, stopN (r.drop (r.takeWhile nameC).length)
  | [] => by intro c hc; cases hc
  | c :: r => by
    rw [List.takeWhile_cons]
    cases h : nameC c with
    | true => rw [if_pos rfl, List.length_cons, List.drop_succ_cons]; exact drop_while r
    | false => rw [if_neg (by simp)]; intro d hd; cases hd; exact h
theorem run_reads {c : UInt8} {r o : List UInt8} {ls : List (List UInt8)} (hc : letterB c = true) (hr : r.all nameC = true) (hl : r.length < 32) (ho : stopN o) (h : Reads o ls) : Reads ((c :: r) ++ o) (saidL (c :: r) :: ls) := by
  refine reads_word (by simp) ?_ ?_ h
  · intro d hd
    cases hd
    cases hb : blankB c with
    | false => rfl
    | true =>
      have := stop_name (c := c) (by rw [hb]; rfl)
      unfold nameC at this
      rw [hc] at this
      simp at this
  · show firstL (c :: (r ++ o)) = c :: r
    unfold firstL
    rw [letter_sign hc]
    have e : runL (c :: (r ++ o)) = c :: r := by
      show (if letterB c = true then c :: (r ++ o).takeWhile nameC else []) = c :: r
      rw [if_pos hc, while_stopN hr ho]
    rw [e]
    simp only [List.length_cons]
    rw [if_neg (by omega)]
theorem word_reads {w : List UInt8} (hw : w ∈ spS) : LexA (spW w) [saidL w] := by
  simp only [spS, List.mem_cons, List.not_mem_nil, or_false] at hw
  rcases hw with rfl | rfl | rfl | rfl
  · refine LexA.app (x := [32]) (y := [97, 108, 119, 97, 121, 115, 32]) (ws := []) (vs := [[91, 93]]) (lex_blank (by decide)) ?_
    exact LexS.appA (x := [97, 108, 119, 97, 121, 115]) (y := [32]) (ws := [[91, 93]]) (vs := []) (lex_word (by decide) (by decide) (by decide)) (lex_blank (by decide)) (fun s => rfl)
  · refine LexA.app (x := [32]) (y := [101, 118, 101, 110, 116, 117, 97, 108, 108, 121, 32]) (ws := []) (vs := [[60, 62]]) (lex_blank (by decide)) ?_
    exact LexS.appA (x := [101, 118, 101, 110, 116, 117, 97, 108, 108, 121]) (y := [32]) (ws := [[60, 62]]) (vs := []) (lex_word (by decide) (by decide) (by decide)) (lex_blank (by decide)) (fun s => rfl)
  · exact lex_sign (w := [47, 92]) (by simp [signsL])
  · exact lex_sign (w := [92, 47]) (by simp [signsL])
/-- What is spelled otherwise has the same words. -/
theorem spell_reads : ∀ (n : Nat) (u : List UInt8) (p : Nat) (l : List Tok), u.length ≤ n → toks p u = .ok l → ∀ o, Sp u o → Reads o (l.map (·.1))
  | _, [], p, l, _, h, o, ho => by
    rw [toks_nil] at h
    cases h
    rcases sp_inv ho with ⟨_, rfl⟩ | ⟨w, s, o', hw, e, _, _⟩ | ⟨s, o', e, _, _⟩ | ⟨c, s, o', e, _, _, _⟩
    · exact reads_nil
    · have h1 := congrArg List.length e
      rw [List.length_append, spS_len hw] at h1
      simp at h1; omega
    · cases e
    · cases e
  | 0, _ :: _, _, _, h, _, _, _ => by simp at h
  | n + 1, c :: r, p, l, hn, h, o, ho => by
    rw [List.length_cons] at hn
    cases hb : blankB c with
    | true =>
      rw [toks_blank hb] at h
      obtain ⟨bs, o', hbs, rfl, hs⟩ := sp_blank hb ho
      exact lex_blanks hbs _ _ (spell_reads n r _ l (by omega) h o' hs)
    | false =>
      by_cases hw : firstL (c :: r) = []
      · rw [toks_err hb hw] at h; cases h
      · rw [toks_word hb rfl hw] at h
        have hl := List.length_pos_iff.2 hw
        have ih : ∀ l2, toks (p + (firstL (c :: r)).length) ((c :: r).drop (firstL (c :: r)).length) = .ok l2 → ∀ o', Sp ((c :: r).drop (firstL (c :: r)).length) o' → Reads o' (l2.map (·.1)) := fun l2 h2 o' ho' => spell_reads n _ _ l2 (by rw [List.length_drop, List.length_cons]; omega) h2 o' ho'
        generalize ht : toks (p + (firstL (c :: r)).length) ((c :: r).drop (firstL (c :: r)).length) = q at h ih
        cases q with
        | error e => cases h
        | ok l2 =>
          cases h
          have ih := ih l2 rfl
          have e3 : c :: r = firstL (c :: r) ++ (c :: r).drop (firstL (c :: r)).length := by
            have e := List.take_append_drop (firstL (c :: r)).length (c :: r)
            rw [← firstL_take (c :: r)] at e
            exact e.symm
          -- either a sign or a run of letters
          cases hf : signsL.find? (fun w => w.isPrefixOf (c :: r)) with
          | none =>
            have hrun : firstL (c :: r) = runL (c :: r) ∧ ¬ 32 < (runL (c :: r)).length := by
              unfold firstL at hw ⊢
              rw [hf] at hw ⊢
              simp only at hw ⊢
              by_cases h32 : 32 < (runL (c :: r)).length
              · rw [if_pos h32] at hw; exact absurd rfl hw
              · rw [if_neg h32]; exact ⟨rfl, h32⟩
            rw [hrun.1] at hw e3 ih ⊢
            have hc : letterB c = true := by
              cases hc : letterB c with
              | true => rfl
              | false => exact absurd (show (if letterB c = true then c :: r.takeWhile nameC else []) = [] by rw [hc]; rfl) hw
            have er : runL (c :: r) = c :: r.takeWhile nameC := (show (if letterB c = true then c :: r.takeWhile nameC else []) = _ by rw [if_pos hc])
            rw [er] at e3 ih hrun ⊢
            have hst : stopN ((c :: r).drop (c :: r.takeWhile nameC).length) := by
              rw [List.length_cons, List.drop_succ_cons]; exact drop_while r
            rw [e3] at ho
            obtain ⟨o1, hs1, rfl⟩ := sp_name (w := c :: r.takeWhile nameC) (by rw [List.all_cons, all_while, Bool.and_true]; unfold nameC; rw [hc]; rfl) ho
            exact run_reads hc (all_while r) (by have := hrun.2; rw [List.length_cons] at this; omega) (sp_head hs1 hst) (ih o1 hs1)
          | some w =>
            have hfw : firstL (c :: r) = w := by unfold firstL; rw [hf]
            have hws : w ∈ signsL := List.mem_of_find?_eq_some hf
            rw [hfw] at e3 ih ⊢
            rw [e3] at ho
            generalize (c :: r).drop w.length = s at ho ih
            rw [List.map_cons]
            have calm : ∀ w' o', Sp s o' → o = w' ++ o' → w' = w → Reads o (saidL w :: l2.map (·.1)) := by
              rintro w' o' hs rfl rfl
              exact lex_sign hws _ _ (ih o' hs)
            by_cases hsp : w ∈ spS
            · obtain ⟨o', hs, rfl | rfl⟩ := sp_sign hsp ho
              · exact calm w o' hs rfl rfl
              · exact word_reads hsp _ _ (ih o' hs)
            · simp only [signsL, List.mem_cons, List.not_mem_nil, or_false] at hws
              rcases hws with rfl | rfl | rfl | rfl | rfl | rfl | rfl | rfl | rfl | rfl | rfl
              · obtain ⟨o1, h1, rfl⟩ := sp_same (c := 60) (s := [45, 62] ++ s) (fun v hv hp => by
                  simp only [spS, List.mem_cons, List.not_mem_nil, or_false] at hv
                  rcases hv with rfl | rfl | rfl | rfl <;> simp at hp) (by decide) (show Sp (60 :: ([45, 62] ++ s)) o from ho)
                obtain ⟨o2, h2, rfl⟩ := sp_calm (c := 45) (s := [62] ++ s) (by decide) (by decide) (show Sp (45 :: ([62] ++ s)) o1 from h1)
                obtain ⟨o3, h3, rfl⟩ := sp_calm (c := 62) (s := s) (by decide) (by decide) (show Sp (62 :: s) o2 from h2)
                exact calm [60, 45, 62] o3 h3 rfl rfl
              · exact absurd (by simp [spS]) hsp
              · exact absurd (by simp [spS]) hsp
              · obtain ⟨o2, h2, rfl⟩ := sp_calm (c := 45) (s := [62] ++ s) (by decide) (by decide) (show Sp (45 :: ([62] ++ s)) o from ho)
                obtain ⟨o3, h3, rfl⟩ := sp_calm (c := 62) (s := s) (by decide) (by decide) (show Sp (62 :: s) o2 from h2)
                exact calm [45, 62] o3 h3 rfl rfl
              · exact absurd (by simp [spS]) hsp
              · obtain ⟨o2, h2, rfl⟩ := sp_calm (c := 47) (s := [92] ++ s) (by decide) (by decide) (show Sp (47 :: ([92] ++ s)) o from ho)
                obtain ⟨o3, h3, rfl⟩ := sp_calm (c := 92) (s := s) (by decide) (by decide) (show Sp (92 :: s) o2 from h2)
                exact calm [47, 92] o3 h3 rfl rfl
              · exact absurd (by simp [spS]) hsp
              · obtain ⟨o2, h2, rfl⟩ := sp_calm (c := 92) (s := [47] ++ s) (by decide) (by decide) (show Sp (92 :: ([47] ++ s)) o from ho)
                obtain ⟨o3, h3, rfl⟩ := sp_calm (c := 47) (s := s) (by decide) (by decide) (show Sp (47 :: s) o2 from h2)
                exact calm [92, 47] o3 h3 rfl rfl
              · obtain ⟨o3, h3, rfl⟩ := sp_calm (c := 33) (s := s) (by decide) (by decide) (show Sp (33 :: s) o from ho)
                exact calm [33] o3 h3 rfl rfl
              · obtain ⟨o3, h3, rfl⟩ := sp_calm (c := 40) (s := s) (by decide) (by decide) (show Sp (40 :: s) o from ho)
                exact calm [40] o3 h3 rfl rfl
              · obtain ⟨o3, h3, rfl⟩ := sp_calm (c := 41) (s := s) (by decide) (by decide) (show Sp (41 :: s) o from ho)
                exact calm [41] o3 h3 rfl rfl
/-- What is spelled otherwise is read as the same. -/
theorem PR_respell {s o : List UInt8} {t : T} (h : PR s (.ok t)) (hs : Sp s o) (hl : o.length ≤ 4096) : PR o (.ok t) := by
  obtain ⟨_, hd, _, ws, hls, hw⟩ := PR_whole h
  obtain ⟨l, h1, rfl⟩ := hls.reads 0
  have := PR_of_whole hl (spell_reads s.length s 0 l (Nat.le_refl _) h1 o hs) hw
  rwa [if_neg (by omega)] at this
end Go.Proofs.Ytkgfdgfhpdhhaaa
