/- A text's words. Conditions: as each theorem states. -/
import Derived.Test.YtkgfdgfhpdhhaaaFirst
import Derived.Lib.Bytealg
import Derived.Deep.AppendLies
namespace Go.Proofs.Ytkgfdgfhpdhhaaa
open Go.ChangeShapes Go.WideShapes Go.RowKit

/-- What is thrown where a text is no formula. -/
def stopE (c p : Int) : List PanicEntry := [{ v := .iface 79 (.agg #[.int .i64 c, .int .i64 p]), recovered := false }]
theorem give_any (c p : Int) (w : World) : Calls Try.prog 51 #[.int .i64 c, .int .i64 p] w fun e w' => e = .panicked (stopE c p) ∧ w = w' := by
  go_enter Try.func51, Try.ntmps51
  go_wp2
  exact ⟨rfl, rfl, rfl⟩

theorem run131 (s : ByteArray) (c : UInt8) (w : World) : (callFunc 131 #[.string s, .int .u8 c.toNat]).run Try.prog w = .ok (.value (.int .i64 (Lib.indexByte s.data.toList c))) w := by
  rw [run_callFunc_extern Try.func131 (by kernel_rfl) (by kernel_rfl) (by kernel_rfl) (e := Extern.BytealgIndexByte.indexByte) (by kernel_rfl), Lib.run_indexByteString]
  have e : ((c.toNat : Int).toNat.toUInt8) = c := by rw [Int.toNat_natCast]; exact UInt8.ofNat_toNat
  rw [e]
  rfl
theorem idx103 (s : ByteArray) (c : UInt8) (w : World) : Calls Try.prog 103 #[.string s, .int .u8 c.toNat] w (Rets (.int .i64 (Lib.indexByte s.data.toList c)) w) := by
  have h131 := run131 s c w
  go_enter Try.func103, Try.ntmps103
  go_wp2
  go_ret
  exact ⟨rfl, rfl⟩
def blankI (c : UInt8) : Int := Lib.indexByte [32, 9, 10, 13] c
theorem idx77 (c : UInt8) (w : World) : Calls Try.prog 77 #[.string ⟨#[32, 9, 10, 13]⟩, .int .u8 c.toNat] w (Rets (.int .i64 (blankI c)) w) := by
  have h1 : Calls Try.prog 103 #[.string ⟨#[32, 9, 10, 13]⟩, .int .u8 c.toNat] w (Rets (.int .i64 (blankI c)) w) := idx103 ⟨#[32, 9, 10, 13]⟩ c w
  go_enter Try.func77, Try.ntmps77
  go_wp2_with fail
  (with_reducible refine h1.mono ?_)
  rintro e w' ⟨rfl, rfl⟩
  go_wp2
  go_ret
  exact ⟨rfl, rfl⟩
theorem blankI_ge (c : UInt8) : 0 ≤ blankI c ↔ blankB c = true := by
  by_cases h32 : c = 32
  · subst h32; decide
  by_cases h9 : c = 9
  · subst h9; decide
  by_cases h10 : c = 10
  · subst h10; decide
  by_cases h13 : c = 13
  · subst h13; decide
  have e : blankI c = -1 := by
    unfold blankI
    simp [Lib.indexByte, Ne.symm h32, Ne.symm h9, Ne.symm h10, Ne.symm h13]
  have e2 : blankB c = false := by
    rw [← UInt8.toNat_inj] at h32 h9 h10 h13
    exact decide_eq_false (fun h => by rcases h with h | h | h | h; exact h32 h; exact h9 h; exact h10 h; exact h13 h)
  rw [e, e2]
  decide

theorem Try.info89 : (Try.prog.info? 89).map (fun i => (i.zero, i.size, i.bytes)) = some (some (.agg #[.string ⟨#[]⟩, .int .i64 0]), 2, 24) := by kernel_rfl
theorem info89_parts : ∃ i, Try.prog.info? 89 = some i ∧ i.zero = some (.agg #[.string ⟨#[]⟩, .int .i64 0]) ∧ i.size = 2 ∧ i.bytes = 24 := by
  have h := Try.info89
  cases hi : Try.prog.info? 89 with
  | none => rw [hi] at h; simp at h
  | some i => rw [hi] at h; simp at h; exact ⟨i, rfl, h.1, h.2.1, h.2.2⟩
/-- A word behind a row of words. -/
theorem append89 {B : Nat} {w : World} {v : Value} {n : Nat} {xs : List Value} {g : Nat} {s : ByteArray} {p : Int} (h : w.ownsRow B 89 2 v n xs) (hB : B ≤ w.heap.size) (hn : n ≤ 100000000) (hg : w.heap[g]? = some (.cells #[.string s, .int .i64 p] 89 (0, 0))) :
    ∃ g' cap w', (Builtin.append_ #[83, 83] 83 #[v, .slice (some ⟨g, 0, none⟩) 1 1]).run Try.prog w = .ok (.slice (some ⟨g', 0, none⟩) (n + 1) cap) w' ∧ w'.ownsRow B 89 2 (.slice (some ⟨g', 0, none⟩) (n + 1) cap) (n + 1) (xs ++ [.string s, .int .i64 p]) ∧ w.grownBy w' v.ownBlock ∧ (v.ownBlock = some g' ∨ g' = w.heap.size) ∧ g' < w'.heap.size := by
  obtain ⟨i, hi, hz, hs, hb⟩ := info89_parts
  exact run_append_lies (P := Try.prog) w 83 83 B 89 i _ 2 24 Try.underlying83 hi hz hs hb rfl (by decide) v n _ h ⟨g, 0, none⟩ 1 1 [.string s, .int .i64 p] rfl
    (fun j u hj => by rw [Go.WideShapes.add_plain, Nat.zero_add]; exact cell_row hg j (by simpa using hj)) (by intro u hu; simp at hu; rcases hu with rfl | rfl <;> rfl) (by decide) (by unfold maxLen; omega) (by omega) hB _ rfl

/-- The cells of words. -/
def tokCells (l : List Tok) : List Value := l.flatMap (fun x => [.string ⟨x.1.toArray⟩, .int .i64 (x.2 : Int)])
theorem tokCells_snoc (l : List Tok) (x : List UInt8) (p : Nat) : tokCells l ++ [.string ⟨x.toArray⟩, .int .i64 (p : Int)] = tokCells (l ++ [(x, p)]) := by
  unfold tokCells
  rw [List.flatMap_append]
  rfl
def comb (acc : List Tok) : Except Nat (List Tok) → Except Nat (List Tok)
  | .error e => .error e
  | .ok l => .ok (acc ++ l)
def TokPost (s : List UInt8) (w : World) (e : Ending) (w' : World) : Prop :=
  Chg Nob w w' ∧ ((∃ l g cap, toks 0 s = .ok l ∧ e = .returned (.slice (some ⟨g, 0, none⟩) (l.length + 1) cap) ∧ w'.ownsRow w.heap.size 89 2 (.slice (some ⟨g, 0, none⟩) (l.length + 1) cap) (l.length + 1) (tokCells (l ++ [([], s.length)]))) ∨
    ∃ p : Nat, toks 0 s = .error p ∧ e = .panicked (stopE 90 p))
def TkRel (s : List UInt8) (w : World) (v i : Value) (wr : World) : Prop :=
  ∃ (k : Nat) (acc : List Tok), i = .int .i64 k ∧ k ≤ s.length ∧ Hid (toks 0 s = comb acc (toks k (s.drop k)) ∧ acc.length ≤ k) ∧ Hid (wr.ownsRow w.heap.size 89 2 v acc.length (tokCells acc)) ∧ Chg Nob w wr

theorem grown_chg {B : Nat} {a w w' : World} {e : TypeId} {z : Nat} {v : Value} {n : Nat} {xs : List Value} (h : Chg Nob a w) (hrow : w.ownsRow B e z v n xs) (hB : a.heap.size ≤ B) (hg : w.grownBy w' v.ownBlock) : Chg Nob a w' := by
  have h1 : Chg (fun k => a.heap.size ≤ k) a w' := Chg.grown (h.any) hg (fun k hk _ => by have := (hrow.lt k hk).1; omega)
  exact h1.mono (fun i hi e => by omega)
set_option maxRecDepth 100000 in
set_option maxHeartbeats 4000000 in
theorem tokens_any (s : List UInt8) (w : World) (hs : s.length ≤ 4096) : Calls Try.prog 52 #[.string ⟨s.toArray⟩] w (TokPost s w) := by
  have hsz : (⟨s.toArray⟩ : ByteArray).size = s.length := by show s.toArray.size = _; simp
  go_enter Try.func52, Try.ntmps52
  go_wp2_with fail
  go_loopw [3, 4] (fun v i wr => TkRel s w v i wr) (fun _ i _ => s.length - (intOf i).toNat)
  case atStart => exact ⟨0, [], rfl, Nat.zero_le _, ⟨by rw [List.drop_zero]; cases toks 0 s <;> rfl, Nat.le_refl _⟩, World.ownsRow_nil _ _ _ _, Chg.refl _ _⟩
  case round =>
    obtain ⟨k, acc, rfl, hk, hacc, hrow, hc⟩ := hrel
    by_cases hlt : k < s.length
    · have hlt2 : k < (⟨s.toArray⟩ : ByteArray).size := by omega
      obtain ⟨y, hy⟩ : ∃ y, (⟨s.toArray⟩ : ByteArray)[k]'hlt2 = y := ⟨_, rfl⟩
      have hxk : s[k]? = some y := by
        have h2 := Lib.data_getElem? (⟨s.toArray⟩ : ByteArray) _ hlt2
        rw [hy] at h2
        exact h2
      have hki : (k : Int) < (s.length : Int) := by omega
      have hk0 : (0 : Int) ≤ (k : Int) := by omega
      have Hd := Lib.hid (drop_at hxk)
      clear hxk
      go_wp2_with fail
      (with_reducible refine (idx77 y _).mono ?_)
      rintro e w3 ⟨rfl, rfl⟩
      cases hbl : blankB y with
      | true =>
        have hb0 := (blankI_ge y).2 hbl
        have hnext : toks 0 s = comb acc (toks (k + 1) (s.drop (k + 1))) ∧ acc.length ≤ k + 1 := ⟨by rw [hacc.out.1, Hd.out, toks_blank hbl], by have := hacc.out.2; omega⟩
        have Hn := Lib.hid hnext
        clear hnext
        go_wp2_with fail
        go_roundw
        case rel => first | exact ⟨k + 1, acc, by go_num, by omega, Hn.out, hrow, hc⟩ | ((repeat apply Exists.intro); exact ⟨⟨k + 1, acc, by go_num, by omega, Hn.out, hrow, hc⟩, rfl⟩)
        case measure => simp [intOf]; omega
      | false =>
        have hb0 : ¬ 0 ≤ blankI y := fun e => by have := (blankI_ge y).1 e; rw [hbl] at this; cases this
        have hdl : (s.drop k).length = s.length - k := List.length_drop
        have hfl := firstL_length (s.drop k)
        go_wp2_with fail
        have hext : (⟨s.toArray⟩ : ByteArray).extract k s.length = ⟨(s.drop k).toArray⟩ := by
          rw [extract_list, List.take_of_length_le (by omega)]
        rw [hext]
        clear hext
        (with_reducible refine (first_any (s.drop k) _ (by omega)).mono ?_)
        rintro e w4 ⟨rfl, hc4⟩
        have Hdl := Lib.hid hdl
        clear hdl
        obtain ⟨f, hf⟩ : ∃ f, f = firstL (s.drop k) := ⟨_, rfl⟩
        rw [← hf] at hfl ⊢
        have Hf := Lib.hid hf
        clear hf
        have hcc := hc.trans1 hc4
        cases hfn : (f == []) with
        | true =>
          have hf0 : f = [] := beq_iff_eq.1 hfn
          subst hf0
          have herr : toks 0 s = .error k := by
            rw [hacc.out.1, Hd.out, toks_err hbl (by rw [← Hd.out]; exact Hf.out.symm)]; rfl
          have He := Lib.hid herr
          clear herr
          go_wp2_with fail
          (with_reducible refine (give_any _ _ _).mono ?_)
          rintro e w5 ⟨rfl, rfl⟩
          go_wp2
          exact ⟨rfl, hcc, .inr ⟨k, He.out, rfl⟩⟩
        | false =>
          have hfe : f.isEmpty = false := by cases f with
            | nil => cases hfn
            | cons _ _ => rfl
          have hfpos : 0 < f.length := by cases f with
            | nil => cases hfn
            | cons _ _ => simp
          have hnext : toks 0 s = comb (acc ++ [(saidL f, k)]) (toks (k + f.length) (s.drop (k + f.length))) := by
            have e2 : (y :: s.drop (k + 1)).drop f.length = s.drop (k + f.length) := by rw [← Hd.out, List.drop_drop]
            rw [hacc.out.1, Hd.out, toks_word hbl (by rw [← Hd.out]; exact Hf.out.symm) (beq_eq_false_iff_ne.1 hfn), e2]
            cases toks (k + f.length) (s.drop (k + f.length)) with
            | error e => rfl
            | ok l => show Except.ok _ = Except.ok _; rw [List.append_assoc]; rfl
          have Hn := Lib.hid hnext
          have hkf : k + f.length ≤ s.length := by have := Hdl.out; omega
          clear hnext
          go_wp2_with fail
          (with_reducible refine (said_any f _).mono ?_)
          rintro e w5 ⟨rfl, rfl⟩
          have hrow4 := ownsRow_chg (hrow.out) hc4 (fun _ _ e => e)
          obtain ⟨g', cap6, w6, hrun, hrow6, hgr, _, _⟩ := append89 (s := ⟨(saidL f).toArray⟩) (p := k) (ownsRow_chg hrow4 ((Chg.refl Nob w4).alloc (.cells #[.string ⟨(saidL f).toArray⟩, .int .i64 k] 89)) (fun _ _ e => e)) (by rw [World.size_alloc]; have := hcc.size; omega) (by have := hacc.out.2; omega) (heap_alloc_new w4 _)
          rw [tokCells_snoc] at hrow6
          have hc6 := grown_chg (hcc.alloc (.cells #[.string ⟨(saidL f).toArray⟩, .int .i64 k] 89)) (ownsRow_chg hrow4 ((Chg.refl Nob w4).alloc _) (fun _ _ e => e)) (Nat.le_refl _) hgr
          have Hrun := Lib.hid hrun
          have Hrow6 := Lib.hid hrow6
          have Hlen : Hid ((acc ++ [(saidL f, k)]).length = acc.length + 1 ∧ acc.length + 1 ≤ k + f.length) := ⟨by simp, by have := hacc.out.2; omega⟩
          clear hrun hrow6 hrow4 hgr
          go_wp2_with (refine wpList_append_known rfl _ _ 83 83 rfl _ _ rfl rfl _ w6 Hrun.out ?_)
          go_roundw
          case rel =>
            have h1 : (⟨f.toArray⟩ : ByteArray).size = f.length := by show f.toArray.size = _; simp
            first | exact ⟨k + f.length, acc ++ [(saidL f, k)], by go_num, hkf, ⟨Hn.out, by rw [Hlen.out.1]; exact Hlen.out.2⟩, by rw [Hlen.out.1]; exact Hrow6, hc6⟩ | ((repeat apply Exists.intro); exact ⟨⟨k + f.length, acc ++ [(saidL f, k)], by go_num, hkf, ⟨Hn.out, by rw [Hlen.out.1]; exact Hlen.out.2⟩, by rw [Hlen.out.1]; exact Hrow6, hc6⟩, rfl⟩)
          case measure => simp [intOf]; omega
    · obtain rfl : k = s.length := by omega
      have htk : toks 0 s = .ok acc := by
        rw [hacc.out.1, List.drop_length, toks_nil]
        show Except.ok _ = _
        rw [List.append_nil]
      have hrow4 := hrow.out
      obtain ⟨g', cap6, w6, hrun, hrow6, hgr, _, _⟩ := append89 (s := ⟨#[]⟩) (p := s.length) (ownsRow_chg hrow4 ((Chg.refl Nob wr).alloc (.cells #[.string ⟨#[]⟩, .int .i64 s.length] 89)) (fun _ _ e => e)) (by rw [World.size_alloc]; have := hc.size; omega) (by have := hacc.out.2; omega) (heap_alloc_new wr _)
      rw [tokCells_snoc acc []] at hrow6
      have hc6 := grown_chg (hc.alloc (.cells #[.string ⟨#[]⟩, .int .i64 s.length] 89)) (ownsRow_chg hrow4 ((Chg.refl Nob wr).alloc _) (fun _ _ e => e)) (Nat.le_refl _) hgr
      have Hrun := Lib.hid hrun
      have Hrow6 := Lib.hid hrow6
      have Htk := Lib.hid htk
      clear hrun hrow6 hrow4 hgr htk
      go_wp2_with (refine wpList_append_known rfl _ _ 83 83 rfl _ _ rfl rfl _ w6 Hrun.out ?_)
      go_ret
      exact ⟨hc6, .inl ⟨acc, g', cap6, Htk.out, rfl, Hrow6.out⟩⟩
end Go.Proofs.Ytkgfdgfhpdhhaaa
