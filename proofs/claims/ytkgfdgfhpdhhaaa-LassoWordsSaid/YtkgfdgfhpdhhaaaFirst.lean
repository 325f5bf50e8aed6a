/- The words with which a formula's text begins. Conditions: as each theorem states. -/
import Derived.Test.YtkgfdgfhpdhhaaaText
import Derived.Lib.IndexBytes
namespace Go.Proofs.Ytkgfdgfhpdhhaaa
open Go.ChangeShapes Go.WideShapes Go.RowKit

theorem ret_str {x y : List UInt8} (h : x = y) : Ending.returned (Value.string ⟨x.toArray⟩) = Ending.returned (Value.string ⟨y.toArray⟩) := by rw [h]
theorem ret_bool {x y : Bool} (h : x = y) : Ending.returned (Value.bool x) = Ending.returned (Value.bool y) := by rw [h]
set_option maxRecDepth 100000 in
set_option maxHeartbeats 1000000 in
theorem said_any (x : List UInt8) (w : World) : Calls Try.prog 79 #[.string ⟨x.toArray⟩] w (Rets (.string ⟨(saidL x).toArray⟩) w) := by
  go_enter Try.func79, Try.ntmps79
  go_wp2
  all_goals go_ret
  all_goals (refine ⟨ret_str ?_, rfl⟩; unfold saidL; simp_all)
theorem extract_list (s : List UInt8) (a b : Nat) : (⟨s.toArray⟩ : ByteArray).extract a b = ⟨((s.drop a).take (b - a)).toArray⟩ := by
  apply ByteArray.ext
  rw [ByteArray.data_extract, List.extract_toArray]
theorem toList_mk (x : List UInt8) : (⟨x.toArray⟩ : ByteArray).toList = x := by
  rw [ByteArray.toList_eq]
theorem prefix_take (s x : List UInt8) : x.isPrefixOf s = (s.take x.length == x) := by
  rw [Bool.eq_iff_iff, List.isPrefixOf_iff_prefix, List.prefix_iff_eq_take, beq_iff_eq]
  exact eq_comm
set_option maxRecDepth 100000 in
set_option maxHeartbeats 1000000 in
theorem hasprefix_any (s x : List UInt8) (w : World) : Calls Try.prog 132 #[.string ⟨s.toArray⟩, .string ⟨x.toArray⟩] w (Rets (.bool (x.isPrefixOf s)) w) := by
  by_cases h : x.length ≤ s.length
  · have h1 : (x.length : Int) ≤ (s.length : Int) := by omega
    go_enter Try.func132, Try.ntmps132
    go_wp2
    all_goals go_ret
    refine ⟨ret_bool ?_, rfl⟩
    rw [prefix_take, extract_list, List.drop_zero, Nat.sub_zero, toList_mk]
  · have h1 : ¬ (x.length : Int) ≤ (s.length : Int) := by omega
    have h2 : decide ((x.length : Int) ≤ (s.length : Int)) = false := by simpa using h1
    have h3 : x.isPrefixOf s = false := by
      rw [Bool.eq_false_iff]
      intro e
      have := (List.isPrefixOf_iff_prefix.1 e).length_le
      omega
    have H3 := Lib.hid h3
    clear h3
    go_enter Try.func132, Try.ntmps132
    go_wp2
    all_goals go_ret
    exact ⟨ret_bool (by rw [H3.out]), rfl⟩
set_option maxRecDepth 100000 in
set_option maxHeartbeats 1000000 in
theorem hasprefix2_any (s x : List UInt8) (w : World) : Calls Try.prog 104 #[.string ⟨s.toArray⟩, .string ⟨x.toArray⟩] w (Rets (.bool (x.isPrefixOf s)) w) := by
  go_enter Try.func104, Try.ntmps104
  go_wp2_with fail
  (with_reducible refine (hasprefix_any s x _).mono ?_)
  rintro e w' ⟨rfl, rfl⟩
  go_wp2
  go_ret
  exact ⟨rfl, rfl⟩
theorem find_found : ∀ {l : List (List UInt8)} {p : List UInt8 → Bool} {k : Nat} {y : List UInt8}, l[k]? = some y → p y = true → (∀ j z, j < k → l[j]? = some z → p z = false) → l.find? p = some y
  | [], _, _, _, h, _, _ => by simp at h
  | z :: l, p, 0, y, h, hp, _ => by
    obtain rfl : z = y := by simpa using h
    rw [List.find?_cons, hp]
  | z :: l, p, k + 1, y, h, hp, hn => by
    rw [List.find?_cons, hn 0 z (by omega) rfl]
    exact find_found (k := k) (by simpa using h) hp (fun j u hj hu => hn (j + 1) u (by omega) (by simpa using hu))
/-- The run's count, letter by letter. -/
theorem run_next {s : List UInt8} {k : Nat} {c : UInt8} (hc : s[k]? = some c) (hr : (runL s).take k = s.take k ∧ k ≤ (runL s).length) (h : letterB c = true ∨ (0 < k ∧ digitB c = true)) : (runL s).take (k + 1) = s.take (k + 1) ∧ k + 1 ≤ (runL s).length := by
  have hlen : k + 1 ≤ (runL s).length := by
    cases s with
    | nil => simp at hc
    | cons d r =>
      cases k with
      | zero =>
        simp at hc; subst hc
        have hl : letterB d = true := by rcases h with h | h; exact h; omega
        have e : runL (d :: r) = d :: r.takeWhile nameC := if_pos hl
        rw [e]; simp
      | succ k =>
        have hd : letterB d = true := by
          cases hd : letterB d with
          | true => rfl
          | false =>
            have e : runL (d :: r) = [] := if_neg (by rw [hd]; simp)
            rw [e] at hr
            simp at hr
        have e : runL (d :: r) = d :: r.takeWhile nameC := if_pos hd
        rw [e] at hr ⊢
        simp only [List.length_cons] at hr ⊢
        have hk : k ≤ (r.takeWhile nameC).length := by omega
        rcases Nat.lt_or_ge k (r.takeWhile nameC).length with hlt | hge
        · omega
        · exfalso
          have hkk : k = (r.takeWhile nameC).length := by omega
          have hrc : r[k]? = some c := by simpa using hc
          have hsp := List.takeWhile_append_dropWhile (p := nameC) (l := r)
          have hdw : (r.dropWhile nameC)[0]? = some c := by
            rw [← hsp, List.getElem?_append_right (by omega), hkk, Nat.sub_self] at hrc
            exact hrc
          have hne : r.dropWhile nameC ≠ [] := by intro e2; rw [e2] at hdw; simp at hdw
          have := List.head_dropWhile_not nameC hne
          rw [List.head_eq_getElem, (List.getElem?_eq_some_iff.1 hdw).2] at this
          unfold nameC at this
          rcases h with h | ⟨_, h⟩ <;> rw [h] at this <;> simp at this
  refine ⟨?_, hlen⟩
  have e := runL_take s
  rw [e, List.take_take, Nat.min_eq_left hlen]
theorem run_stop {s : List UInt8} {k : Nat} (hr : k ≤ (runL s).length) (h : s[k]? = none ∨ ∃ c, s[k]? = some c ∧ letterB c = false ∧ (k = 0 ∨ digitB c = false)) : (runL s).length = k := by
  rcases h with h | ⟨c, hc, hl, hd⟩
  · have h1 := congrArg List.length (runL_take s)
    rw [List.length_take] at h1
    have := List.getElem?_eq_none_iff.1 h
    omega
  · cases s with
    | nil => simp at hc
    | cons d r =>
      cases k with
      | zero =>
        simp at hc; subst hc
        have e : runL (d :: r) = [] := if_neg (by rw [hl]; simp)
        rw [e]; rfl
      | succ k =>
        have hd' : digitB c = false := by rcases hd with h | h; omega; exact h
        rcases Nat.lt_or_ge (k + 1) (runL (d :: r)).length with hlt | hge
        · exfalso
          have e0 : letterB d = true := by
            cases hd : letterB d with
            | true => rfl
            | false =>
              have e : runL (d :: r) = [] := if_neg (by rw [hd]; simp)
              rw [e] at hlt; simp at hlt
          have e : runL (d :: r) = d :: r.takeWhile nameC := if_pos e0
          rw [e, List.length_cons] at hlt
          have hk : k < (r.takeWhile nameC).length := by omega
          have hx := List.getElem?_eq_getElem hk
          have hpre := List.takeWhile_prefix nameC (l := r)
          have h2 : r[k]? = some ((r.takeWhile nameC)[k]) := by
            rw [hpre.getElem hk]; exact List.getElem?_eq_getElem (Nat.lt_of_lt_of_le hk hpre.length_le)
          have h3 : r[k]? = some c := by simpa using hc
          rw [h3] at h2
          have hmem : c ∈ r.takeWhile nameC := by
            have := List.getElem_mem hk
            rw [← Option.some.inj h2] at this
            exact this
          have h4 : nameC c = true := by
            have := List.all_takeWhile (p := nameC) (l := r)
            rw [List.all_eq_true] at this
            exact this c hmem
          unfold nameC at h4
          rw [hl, hd'] at h4
          cases h4
        · omega

theorem first_end {s : List UInt8} {k : Nat} (hf : firstL s = if 32 < (runL s).length then [] else runL s) (ht : (runL s).take k = s.take k) (hl : (runL s).length = k) : firstL s = if 32 < k then [] else s.take k := by
  rw [hf, hl, ← ht, ← hl, List.take_length]
theorem signs_cells (w : World) : (w.alloc (.cells (signsL.map (fun x => Value.string ⟨x.toArray⟩)).toArray 9)).heap[w.heap.size]? = some (.cells (signsL.map (fun x => Value.string ⟨x.toArray⟩)).toArray 9 (0, 0)) := heap_alloc_new w _
set_option maxRecDepth 100000 in
set_option maxHeartbeats 2000000 in
theorem first_any (s : List UInt8) (w : World) (hs : s.length ≤ 1000000) : Calls Try.prog 78 #[.string ⟨s.toArray⟩] w fun e w' => e = .returned (.string ⟨(firstL s).toArray⟩) ∧ Chg Nob w w' := by
  have hsz : (⟨s.toArray⟩ : ByteArray).size = s.length := by show s.toArray.size = _; simp
  have hcells : ∀ (j : Nat) (y : List UInt8), signsL[j]? = some y → (w.alloc (.cells (signsL.map (fun x => Value.string ⟨x.toArray⟩)).toArray 9)).cell? ⟨w.heap.size, j, none⟩ = some (.string ⟨y.toArray⟩) := fun j y hy =>
    cell_row (signs_cells w) j (by simp [hy])
  have Hc := Lib.hid hcells
  clear hcells
  rw [show (signsL.map (fun x => Value.string ⟨x.toArray⟩)).toArray = #[Value.string ⟨#[60, 45, 62]⟩, Value.string ⟨#[91, 93]⟩, Value.string ⟨#[60, 62]⟩, Value.string ⟨#[45, 62]⟩, Value.string ⟨#[38, 38]⟩, Value.string ⟨#[47, 92]⟩, Value.string ⟨#[124, 124]⟩, Value.string ⟨#[92, 47]⟩, Value.string ⟨#[33]⟩, Value.string ⟨#[40]⟩, Value.string ⟨#[41]⟩] from rfl] at Hc
  have hlen : signsL.length = 11 := rfl
  have Hlen := Lib.hid hlen
  clear hlen
  go_enter Try.func78, Try.ntmps78
  go_wp2_with fail
  have hcw : Chg Nob w (w.alloc (.cells #[Value.string ⟨#[60, 45, 62]⟩, Value.string ⟨#[91, 93]⟩, Value.string ⟨#[60, 62]⟩, Value.string ⟨#[45, 62]⟩, Value.string ⟨#[38, 38]⟩, Value.string ⟨#[47, 92]⟩, Value.string ⟨#[124, 124]⟩, Value.string ⟨#[92, 47]⟩, Value.string ⟨#[33]⟩, Value.string ⟨#[40]⟩, Value.string ⟨#[41]⟩] 9)) := (Chg.refl _ _).alloc _
  generalize (w.alloc (.cells #[Value.string ⟨#[60, 45, 62]⟩, Value.string ⟨#[91, 93]⟩, Value.string ⟨#[60, 62]⟩, Value.string ⟨#[45, 62]⟩, Value.string ⟨#[38, 38]⟩, Value.string ⟨#[47, 92]⟩, Value.string ⟨#[124, 124]⟩, Value.string ⟨#[92, 47]⟩, Value.string ⟨#[33]⟩, Value.string ⟨#[40]⟩, Value.string ⟨#[41]⟩] 9)) = W1 at *
  go_loopw [8] (fun i wr => ∃ k : Nat, i = .int .i64 k ∧ k ≤ 11 ∧ Hid (∀ j y, j < k → signsL[j]? = some y → y.isPrefixOf s = false) ∧ wr = W1) (fun i _ => 11 - (intOf i).toNat)
  case atStart => exact ⟨0, rfl, Nat.zero_le _, fun j y h => absurd h (Nat.not_lt_zero j), rfl⟩
  case round =>
    obtain ⟨k, rfl, hk, hno, rfl⟩ := hrel
    by_cases hlt : k < 11
    · obtain ⟨y, hy⟩ : ∃ y, signsL[k]? = some y := ⟨_, List.getElem?_eq_getElem (by rw [Hlen.out]; exact hlt)⟩
      have hcell := Hc.out k y hy
      have hki : (k : Int) < 11 := by omega
      have hk0 : (0 : Int) ≤ (k : Int) := by omega
      have Hy := Lib.hid hy
      clear hy
      go_wp2_with fail
      (with_reducible refine (hasprefix2_any s y _).mono ?_)
      rintro e w' ⟨rfl, rfl⟩
      cases hxy : y.isPrefixOf s with
      | true =>
        have hidx : firstL s = y := by unfold firstL; rw [find_found (p := fun w => w.isPrefixOf s) Hy.out hxy hno.out]
        have Hi := Lib.hid hidx
        clear hidx
        go_wp2_with fail
        go_ret
        exact ⟨by rw [Hi.out]; rfl, hcw⟩
      | false =>
        go_wp2_with fail
        go_roundw
        case rel => exact ⟨k + 1, by go_num, by omega, (show ∀ j y, j < k + 1 → signsL[j]? = some y → y.isPrefixOf s = false from fun j z hj hz => by
          by_cases e : j = k
          · subst e
            rw [Hy.out] at hz
            cases hz
            exact hxy
          · exact hno.out j z (by omega) hz), trivial⟩
        case measure => simp [intOf]; omega
    · obtain rfl : k = 11 := by omega
      have hfind : signsL.find? (fun w => w.isPrefixOf s) = none := by
        rw [List.find?_eq_none]
        intro y hy
        obtain ⟨j, hj⟩ := List.mem_iff_getElem?.1 hy
        rw [hno.out j y (by have := (List.getElem?_eq_some_iff.1 hj).1; rw [Hlen.out] at this; exact this) hj]
        simp
      have hfirst : firstL s = if 32 < (runL s).length then [] else runL s := by unfold firstL; rw [hfind]
      have Hf := Lib.hid hfirst
      clear hfind hfirst
      go_wp2_with fail
      go_loopw [5] (fun i wr' => ∃ k : Nat, i = .int .i64 k ∧ k ≤ s.length ∧ Hid ((runL s).take k = s.take k ∧ k ≤ (runL s).length) ∧ wr' = wr) (fun i _ => s.length - (intOf i).toNat)
      case atStart => exact ⟨0, rfl, Nat.zero_le _, ⟨rfl, Nat.zero_le _⟩, rfl⟩
      case round =>
        obtain ⟨k, rfl, hk, hrun, rfl⟩ := hrel
        by_cases hlt : k < s.length
        · have hlt2 : k < (⟨s.toArray⟩ : ByteArray).size := by omega
          obtain ⟨y, hy⟩ : ∃ y, (⟨s.toArray⟩ : ByteArray)[k]'hlt2 = y := ⟨_, rfl⟩
          have hxk : s[k]? = some y := by
            have h2 := Lib.data_getElem? (⟨s.toArray⟩ : ByteArray) _ hlt2
            rw [hy] at h2
            exact h2
          have hki : (k : Int) < (s.length : Int) := by omega
          have hk0 : (0 : Int) ≤ (k : Int) := by omega
          have Hx := Lib.hid hxk
          clear hxk
          go_wp2_with fail
          (with_reducible refine (letter_any y _).mono ?_)
          rintro e w3 ⟨rfl, rfl⟩
          cases hly : letterB y with
          | true =>
            have hnext := run_next Hx.out hrun.out (.inl hly)
            have Hn := Lib.hid hnext
            clear hnext
            go_wp2_with fail
            go_roundw
            case rel => (repeat apply Exists.intro); exact ⟨⟨k + 1, by go_num, by omega, Hn.out, trivial⟩, rfl⟩
            case measure => simp [intOf]; omega
          | false =>
            by_cases hk1 : k = 0
            · subst hk1
              have hlen := run_stop hrun.out.2 (.inr ⟨y, Hx.out, hly, .inl rfl⟩)
              have hres : firstL s = [] := by rw [Hf.out, hlen, if_neg (by omega)]; exact List.eq_nil_of_length_eq_zero hlen
              have Hr := Lib.hid hres
              clear hres hlen
              go_wp2_with fail
              go_ret
              exact ⟨by rw [Hr.out]; rfl, hcw⟩
            · have hkp : (0 : Int) < (k : Int) := by omega
              go_wp2_with fail
              (with_reducible refine (digit_any y _).mono ?_)
              rintro e w3 ⟨rfl, rfl⟩
              cases hdy : digitB y with
              | true =>
                have hnext := run_next Hx.out hrun.out (.inr ⟨by omega, hdy⟩)
                have Hn := Lib.hid hnext
                clear hnext
                go_wp2_with fail
                go_roundw
                case rel => (repeat apply Exists.intro); exact ⟨⟨k + 1, by go_num, by omega, Hn.out, trivial⟩, rfl⟩
                case measure => simp [intOf]; omega
              | false =>
                have hlen := run_stop hrun.out.2 (.inr ⟨y, Hx.out, hly, .inr hdy⟩)
                have Hres := Lib.hid (first_end Hf.out hrun.out.1 hlen)
                clear hlen
                by_cases h32 : 32 < k
                · have h32i : (32 : Int) < (k : Int) := by omega
                  go_wp2_with fail
                  go_ret
                  exact ⟨by rw [Hres.out, if_pos h32]; rfl, hcw⟩
                · have h32i : ¬ (32 : Int) < (k : Int) := by omega
                  go_wp2_with fail
                  go_ret
                  exact ⟨by rw [Hres.out, if_neg h32, extract_list]; rfl, hcw⟩
        · obtain rfl : k = s.length := by omega
          have hlen := run_stop hrun.out.2 (.inl (List.getElem?_eq_none_iff.2 (Nat.le_refl _)))
          have Hres := Lib.hid (first_end Hf.out hrun.out.1 hlen)
          clear hlen
          by_cases h32 : 32 < s.length
          · have h32i : (32 : Int) < (s.length : Int) := by omega
            go_wp2_with fail
            go_ret
            exact ⟨by rw [Hres.out, if_pos h32]; rfl, hcw⟩
          · have h32i : ¬ (32 : Int) < (s.length : Int) := by omega
            go_wp2_with fail
            go_ret
            exact ⟨by rw [Hres.out, if_neg h32, extract_list]; rfl, hcw⟩
end Go.Proofs.Ytkgfdgfhpdhhaaa
