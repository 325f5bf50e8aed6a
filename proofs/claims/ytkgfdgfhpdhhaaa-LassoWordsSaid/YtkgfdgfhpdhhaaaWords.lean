/- Names and the words that are none, in the program and in the reference. Conditions: as each theorem states. What is a name, how many kids a kind has: in the program and in the reference. Conditions: as each theorem states. Names in the reference. Conditions: as each theorem states. -/
import Derived.Test.YtkgfdgfhpdhhaaaBase
import Derived.Lib.IndexBytes
namespace Go.Proofs.Ytkgfdgfhpdhhaaa
open Go.ChangeShapes Go.WideShapes Go.RowKit

def letterB (x : UInt8) : Bool := decide ((97 ≤ x.toNat ∧ x.toNat ≤ 122) ∨ (65 ≤ x.toNat ∧ x.toNat ≤ 90) ∨ x.toNat = 95)
def digitB (x : UInt8) : Bool := decide (48 ≤ x.toNat ∧ x.toNat ≤ 57)
def Rets (v : Value) (w : World) (e : Ending) (w' : World) : Prop := e = .returned v ∧ w = w'

set_option maxHeartbeats 1000000 in
theorem letter_any (x : UInt8) (w : World) : Calls Try.prog 105 #[.int .u8 x.toNat] w (Rets (.bool (letterB x)) w) := by
  go_enter Try.func105, Try.ntmps105
  go_wp2
  all_goals go_ret
  all_goals (refine ⟨?_, rfl⟩; show Ending.returned (Value.bool _) = Ending.returned (Value.bool _); refine congrArg (fun q => Ending.returned (Value.bool q)) ?_; rw [Bool.eq_iff_iff]; simp [letterB]; omega)
set_option maxHeartbeats 1000000 in
theorem rletter_any (x : UInt8) (w : World) : Calls Try.prog 72 #[.int .u8 x.toNat] w (Rets (.bool (letterB x)) w) := by
  go_enter Try.func72, Try.ntmps72
  go_wp2
  all_goals go_ret
  all_goals (refine ⟨?_, rfl⟩; show Ending.returned (Value.bool _) = Ending.returned (Value.bool _); refine congrArg (fun q => Ending.returned (Value.bool q)) ?_; rw [Bool.eq_iff_iff]; simp [letterB]; omega)
theorem digit_any (x : UInt8) (w : World) : Calls Try.prog 106 #[.int .u8 x.toNat] w (Rets (.bool (digitB x)) w) := by
  go_enter Try.func106, Try.ntmps106
  go_wp2
  all_goals go_ret
  all_goals (refine ⟨?_, rfl⟩; show Ending.returned (Value.bool _) = Ending.returned (Value.bool _); refine congrArg (fun q => Ending.returned (Value.bool q)) ?_; rw [Bool.eq_iff_iff]; simp [digitB]; omega)
theorem rdigit_any (x : UInt8) (w : World) : Calls Try.prog 73 #[.int .u8 x.toNat] w (Rets (.bool (digitB x)) w) := by
  go_enter Try.func73, Try.ntmps73
  go_wp2
  all_goals go_ret
  all_goals (refine ⟨?_, rfl⟩; show Ending.returned (Value.bool _) = Ending.returned (Value.bool _); refine congrArg (fun q => Ending.returned (Value.bool q)) ?_; rw [Bool.eq_iff_iff]; simp [digitB]; omega)

/-- A row of texts that lies in the world. -/
def Texts (w : World) (v : Value) (L : List (List UInt8)) : Prop := ∃ ao cp, v = .slice ao L.length cp ∧ L.length ≤ 9223372036854775807 ∧ ∀ j x, L[j]? = some x → ∃ b o, ao = some ⟨b, o, none⟩ ∧ w.cell? ⟨b, o + j, none⟩ = some (.string ⟨x.toArray⟩)
def indexL (L : List (List UInt8)) (x : List UInt8) : Int := if x ∈ L then (L.idxOf x : Int) else -1

theorem idxOf_first : ∀ {L : List (List UInt8)} {x : List UInt8} (k : Nat), L[k]? = some x → (∀ j y, j < k → L[j]? = some y → y ≠ x) → L.idxOf x = k
  | [], _, _, h, _ => by simp at h
  | y :: L, x, 0, h, _ => by
    obtain rfl : y = x := by simpa using h
    exact List.idxOf_cons_self
  | y :: L, x, k + 1, h, hn => by
    have h0 : y ≠ x := hn 0 y (by omega) rfl
    have ih := idxOf_first (L := L) k (by simpa using h) (fun j z hj hz => hn (j + 1) z (by omega) (by simpa using hz))
    rw [List.idxOf_cons, ih, beq_eq_false_iff_ne.2 h0]
    rfl

set_option maxRecDepth 100000 in
set_option maxHeartbeats 1000000 in
theorem index_any (v : Value) (L : List (List UInt8)) (x : List UInt8) (w : World) (hv : Texts w v L) : Calls Try.prog 119 #[v, .string ⟨x.toArray⟩] w (Rets (.int .i64 (indexL L x)) w) := by
  obtain ⟨ao, cp, rfl, hlen, hc⟩ := hv
  have Hc := Lib.hid hc
  clear hc
  go_enter Try.func119, Try.ntmps119
  go_wp2
  go_loopw [8] (fun i wr => ∃ k : Nat, i = .int .i64 k ∧ k ≤ L.length ∧ Hid (∀ j y, j < k → L[j]? = some y → y ≠ x) ∧ wr = w) (fun i _ => L.length - (intOf i).toNat)
  case atStart => exact ⟨0, rfl, Nat.zero_le _, fun j y h => absurd h (Nat.not_lt_zero j), rfl⟩
  case round =>
    obtain ⟨k, rfl, hk, hno, rfl⟩ := hrel
    by_cases hlt : k < L.length
    · obtain ⟨y, hy⟩ : ∃ y, L[k]? = some y := ⟨_, List.getElem?_eq_getElem hlt⟩
      obtain ⟨b, o, rfl, hcell⟩ := Hc.out k y hy
      have hki : (k : Int) < (L.length : Int) := by omega
      have hk0 : (0 : Int) ≤ (k : Int) := by omega
      have Hy := Lib.hid hy
      clear hy
      cases hxy : (x == y) with
      | true =>
        have hidx : indexL L x = k := by
          have e := beq_iff_eq.1 hxy
          subst e
          have hmem : x ∈ L := List.mem_of_getElem? Hy.out
          unfold indexL
          rw [if_pos hmem, idxOf_first k Hy.out (fun j y hj hy => hno.out j y hj hy)]
        go_wp2
        go_ret
        exact ⟨by rw [hidx]; rfl, rfl⟩
      | false =>
        go_wp2
        go_roundw
        case rel => exact ⟨k + 1, by go_num, by omega, (show ∀ j y, j < k + 1 → L[j]? = some y → y ≠ x from fun j z hj hz => by
          by_cases e : j = k
          · subst e
            rw [Hy.out] at hz
            cases hz
            rw [beq_eq_false_iff_ne] at hxy
            exact fun e => hxy e.symm
          · exact hno.out j z (by omega) hz), trivial⟩
        case measure => simp [intOf]; omega
    · obtain rfl : k = L.length := by omega
      have hidx : indexL L x = -1 := by
        unfold indexL
        rw [if_neg]
        intro hmem
        obtain ⟨j, hj⟩ := List.mem_iff_getElem?.1 hmem
        exact hno.out j x (List.getElem?_eq_some_iff.1 hj).1 hj rfl
      go_wp2
      go_ret
      exact ⟨by rw [hidx]; rfl, rfl⟩

theorem contains_any (v : Value) (L : List (List UInt8)) (x : List UInt8) (w : World) (hv : Texts w v L) : Calls Try.prog 115 #[v, .string ⟨x.toArray⟩] w (Rets (.bool (decide (x ∈ L))) w) := by
  have h1 := index_any v L x w hv
  clear hv
  go_enter Try.func115, Try.ntmps115
  go_wp2_with fail
  (with_reducible refine h1.mono ?_)
  rintro e w' ⟨rfl, rfl⟩
  by_cases hx : x ∈ L
  · have hi : (0 : Int) ≤ indexL L x := by unfold indexL; rw [if_pos hx]; omega
    go_wp2
    go_ret
    exact ⟨by simp [hx], rfl⟩
  · have hi : ¬ (0 : Int) ≤ indexL L x := by unfold indexL; rw [if_neg hx]; omega
    go_wp2
    go_ret
    exact ⟨by simp [hx]; omega, rfl⟩

/-- The words that are no names. -/
def wordsL : List (List UInt8) := [[116, 114, 117, 101], [102, 97, 108, 115, 101], [88], [85], [86], [87], [97, 108, 119, 97, 121, 115], [101, 118, 101, 110, 116, 117, 97, 108, 108, 121], [110, 101, 120, 116], [117, 110, 116, 105, 108], [114, 101, 108, 101, 97, 115, 101], [119, 101, 97, 107, 117, 110, 116, 105, 108]]
def isWord (x : List UInt8) : Bool := decide (x ∈ wordsL)
theorem texts_new (w : World) (L : List (List UInt8)) (hl : L.length ≤ 1000) : Texts (w.alloc (.cells (L.map (fun x => Value.string ⟨x.toArray⟩)).toArray 9)) (.slice (some ⟨w.heap.size, 0, none⟩) L.length L.length) L :=
  ⟨_, _, rfl, by omega, fun j x hx => ⟨_, _, rfl, by rw [Nat.zero_add]; exact cell_row (heap_alloc_new w _) j (by simp [hx])⟩⟩

set_option maxRecDepth 100000 in
set_option maxHeartbeats 1000000 in
theorem words_any (x : List UInt8) (w : World) : Calls Try.prog 113 #[.string ⟨x.toArray⟩] w fun e w' => e = .returned (.bool (isWord x)) ∧ Chg Nob w w' := by
  have h1 := contains_any _ wordsL x _ (texts_new w wordsL (by decide))
  have hb : decide (x ∈ wordsL) = isWord x := rfl
  rw [hb] at h1
  clear hb
  simp only [wordsL, List.map_cons, List.map_nil, List.length_cons, List.length_nil, Nat.reduceAdd] at h1
  go_enter Try.func113, Try.ntmps113
  go_wp2_with fail
  (with_reducible refine h1.mono ?_)
  rintro e w' ⟨rfl, rfl⟩
  go_wp2
  go_ret
  exact ⟨rfl, (Chg.refl _ _).alloc _⟩
end Go.Proofs.Ytkgfdgfhpdhhaaa
namespace Go.Proofs.Ytkgfdgfhpdhhaaa
open Go.ChangeShapes Go.WideShapes Go.RowKit

def kidsOf (k : Int) : Int := if 1 ≤ k ∧ k ≤ 3 then 0 else if 4 ≤ k ∧ k ≤ 7 then 1 else if 8 ≤ k ∧ k ≤ 14 then 2 else -1
theorem kids_any (k : Int) (w : World) : Calls Try.prog 95 #[.int .i64 k] w (Rets (.int .i64 (kidsOf k)) w) := by
  go_enter Try.func95, Try.ntmps95
  go_wp2
  all_goals go_ret
  all_goals (refine ⟨?_, rfl⟩; show Ending.returned (Value.int _ _) = Ending.returned (Value.int _ _); refine congrArg (fun q => Ending.returned (Value.int .i64 q)) ?_; unfold kidsOf; (try simp_all) <;> (repeat' split) <;> omega)
theorem rkids_any (k : Int) (w : World) : Calls Try.prog 110 #[.int .i64 k] w (Rets (.int .i64 (kidsOf k)) w) := by
  go_enter Try.func110, Try.ntmps110
  go_wp2
  all_goals go_ret
  all_goals (refine ⟨?_, rfl⟩; show Ending.returned (Value.int _ _) = Ending.returned (Value.int _ _); refine congrArg (fun q => Ending.returned (Value.int .i64 q)) ?_; unfold kidsOf; (try simp_all) <;> (repeat' split) <;> omega)

def headB : List UInt8 → Bool
  | [] => false
  | c :: _ => letterB c
def nameB (x : List UInt8) : Bool := decide (x.length ≤ 32) && headB x && x.all (fun c => letterB c || digitB c) && !isWord x
theorem nameB_of {x : List UInt8} (h0 : x.length ≤ 32) (h1 : headB x = true) (h2 : x.all (fun c => letterB c || digitB c) = true) (h3 : isWord x = false) : nameB x = true := by
  unfold nameB
  rw [decide_eq_true h0, h1, h2, h3]
  rfl
theorem all_take {x : List UInt8} {p : UInt8 → Bool} (h : ∀ j c, j < x.length → x[j]? = some c → p c = true) : x.all p = true := by
  rw [List.all_eq_true]
  intro c hc
  obtain ⟨j, hj⟩ := List.mem_iff_getElem?.1 hc
  exact h j c (List.getElem?_eq_some_iff.1 hj).1 hj
theorem not_all_at {x : List UInt8} {p : UInt8 → Bool} {k : Nat} {c : UInt8} (h : x[k]? = some c) (hp : p c = false) : x.all p = false := by
  rw [List.all_eq_false]
  exact ⟨c, List.mem_of_getElem? h, by simp [hp]⟩

set_option maxRecDepth 100000 in
set_option maxHeartbeats 2000000 in
theorem isname_any (x : List UInt8) (w : World) : Calls Try.prog 96 #[.string ⟨x.toArray⟩] w fun e w' => e = .returned (.bool (nameB x)) ∧ Chg Nob w w' := by
  have hsz : (⟨x.toArray⟩ : ByteArray).size = x.length := by show x.toArray.size = _; simp
  by_cases hnil : x = []
  · subst hnil
    go_enter Try.func96, Try.ntmps96
    go_wp2_with fail
    go_ret
    exact ⟨rfl, Chg.refl _ _⟩
  · have hpos : 0 < x.length := List.length_pos_iff.2 hnil
    have hne : (x == []) = false := by rw [beq_eq_false_iff_ne]; exact hnil
    have hnis : x.isEmpty = false := by cases x with
      | nil => exact absurd rfl hnil
      | cons _ _ => rfl
    clear hnil
    by_cases h32 : 32 < x.length
    · have hn : nameB x = false := by unfold nameB; rw [decide_eq_false (by omega)]; simp
      have hl : (32 : Int) < (x.length : Int) := by omega
      have Hn := Lib.hid hn
      clear hn h32
      go_enter Try.func96, Try.ntmps96
      go_wp2_with fail
      go_ret
      exact ⟨by rw [Hn.out]; rfl, Chg.refl _ _⟩
    · have hl : ¬ (32 : Int) < (x.length : Int) := by omega
      have hlt0 : 0 < (⟨x.toArray⟩ : ByteArray).size := by omega
      obtain ⟨c, hc⟩ : ∃ c, (⟨x.toArray⟩ : ByteArray)[0]'hlt0 = c := ⟨_, rfl⟩
      have hx0 : x[0]? = some c := by
        have h2 := Lib.data_getElem? (⟨x.toArray⟩ : ByteArray) _ hlt0
        rw [hc] at h2
        exact h2
      have hhead : headB x = letterB c := by cases x with
        | nil => simp at hx0
        | cons d l => simp at hx0; subst hx0; rfl
      have hp0 : (0 : Int) < (x.length : Int) := by omega
      have Hh := Lib.hid hhead
      clear hx0 hhead
      go_enter Try.func96, Try.ntmps96
      go_wp2_with fail
      (with_reducible refine (letter_any c _).mono ?_)
      rintro e w1 ⟨rfl, rfl⟩
      cases hlc : letterB c with
      | false =>
        have hn : nameB x = false := by unfold nameB; rw [Hh.out, hlc]; simp
        have Hn := Lib.hid hn
        clear hn
        go_wp2_with fail
        go_ret
        exact ⟨by rw [Hn.out]; rfl, Chg.refl _ _⟩
      | true =>
        go_wp2_with fail
        (with_reducible refine (words_any x _).mono ?_)
        rintro e w2 ⟨rfl, hc2⟩
        cases hwd : isWord x with
        | true =>
          have hn : nameB x = false := by unfold nameB; rw [hwd]; simp
          have Hn := Lib.hid hn
          clear hn
          go_wp2_with fail
          go_ret
          exact ⟨by rw [Hn.out]; rfl, hc2⟩
        | false =>
          go_wp2_with fail
          go_loopw [23] (fun i wr => ∃ k : Nat, i = .int .i64 k ∧ k ≤ x.length ∧ Hid (∀ j c, j < k → x[j]? = some c → (letterB c || digitB c) = true) ∧ wr = w2) (fun i _ => x.length - (intOf i).toNat)
          case atStart => exact ⟨0, rfl, Nat.zero_le _, fun j y h => absurd h (Nat.not_lt_zero j), rfl⟩
          case round =>
            obtain ⟨k, rfl, hk, hall, rfl⟩ := hrel
            by_cases hlt : k < x.length
            · have hlt2 : k < (⟨x.toArray⟩ : ByteArray).size := by omega
              obtain ⟨y, hy⟩ : ∃ y, (⟨x.toArray⟩ : ByteArray)[k]'hlt2 = y := ⟨_, rfl⟩
              have hxk : x[k]? = some y := by
                have h2 := Lib.data_getElem? (⟨x.toArray⟩ : ByteArray) _ hlt2
                rw [hy] at h2
                exact h2
              have hki : (k : Int) < (x.length : Int) := by omega
              have hk0 : (0 : Int) ≤ (k : Int) := by omega
              have Hx := Lib.hid hxk
              clear hxk hc
              go_wp2_with fail
              (with_reducible refine (letter_any y _).mono ?_)
              rintro e w3 ⟨rfl, rfl⟩
              cases hly : letterB y with
              | true =>
                go_wp2_with fail
                go_roundw
                case rel => exact ⟨k + 1, by go_num, by omega, (show ∀ j c, j < k + 1 → x[j]? = some c → (letterB c || digitB c) = true from fun j z hj hz => by
                  by_cases e : j = k
                  · subst e
                    rw [Hx.out] at hz
                    cases hz
                    simp [hly]
                  · exact hall.out j z (by omega) hz), trivial⟩
                case measure => simp [intOf]; omega
              | false =>
                go_wp2_with fail
                (with_reducible refine (digit_any y _).mono ?_)
                rintro e w3 ⟨rfl, rfl⟩
                cases hdy : digitB y with
                | true =>
                  go_wp2_with fail
                  go_roundw
                  case rel => exact ⟨k + 1, by go_num, by omega, (show ∀ j c, j < k + 1 → x[j]? = some c → (letterB c || digitB c) = true from fun j z hj hz => by
                    by_cases e : j = k
                    · subst e
                      rw [Hx.out] at hz
                      cases hz
                      simp [hdy]
                    · exact hall.out j z (by omega) hz), trivial⟩
                  case measure => simp [intOf]; omega
                | false =>
                  have hn : nameB x = false := by unfold nameB; rw [not_all_at Hx.out (by simp [hly, hdy])]; simp
                  have Hn := Lib.hid hn
                  clear hn
                  go_wp2_with fail
                  go_ret
                  exact ⟨by rw [Hn.out]; rfl, hc2⟩
            · obtain rfl : k = x.length := by omega
              have hn : nameB x = true := nameB_of (by omega) (by rw [Hh.out, hlc]) (all_take hall.out) hwd
              have Hn := Lib.hid hn
              clear hn
              go_wp2_with fail
              go_ret
              exact ⟨by rw [Hn.out]; rfl, hc2⟩
end Go.Proofs.Ytkgfdgfhpdhhaaa
namespace Go.Proofs.Ytkgfdgfhpdhhaaa
open Go.ChangeShapes Go.WideShapes Go.RowKit

theorem words_cells (w : World) : (w.alloc (.cells (wordsL.map (fun x => Value.string ⟨x.toArray⟩)).toArray 9)).heap[w.heap.size]? = some (.cells (wordsL.map (fun x => Value.string ⟨x.toArray⟩)).toArray 9 (0, 0)) := heap_alloc_new w _

set_option maxRecDepth 100000 in
set_option maxHeartbeats 2000000 in
theorem rword_any (x : List UInt8) (w : World) : Calls Try.prog 130 #[.string ⟨x.toArray⟩] w fun e w' => e = .returned (.bool (isWord x)) ∧ Chg Nob w w' := by
  have hcells : ∀ (j : Nat) (y : List UInt8), wordsL[j]? = some y → (w.alloc (.cells (wordsL.map (fun x => Value.string ⟨x.toArray⟩)).toArray 9)).cell? ⟨w.heap.size, j, none⟩ = some (.string ⟨y.toArray⟩) := fun j y hy =>
    cell_row (words_cells w) j (by simp [hy])
  have Hc := Lib.hid hcells
  clear hcells
  rw [show (wordsL.map (fun x => Value.string ⟨x.toArray⟩)).toArray = #[Value.string { data := #[116, 114, 117, 101] }, Value.string { data := #[102, 97, 108, 115, 101] }, Value.string { data := #[88] }, Value.string { data := #[85] }, Value.string { data := #[86] }, Value.string { data := #[87] }, Value.string { data := #[97, 108, 119, 97, 121, 115] }, Value.string { data := #[101, 118, 101, 110, 116, 117, 97, 108, 108, 121] }, Value.string { data := #[110, 101, 120, 116] }, Value.string { data := #[117, 110, 116, 105, 108] }, Value.string { data := #[114, 101, 108, 101, 97, 115, 101] }, Value.string { data := #[119, 101, 97, 107, 117, 110, 116, 105, 108] }] from rfl] at Hc
  have hlen : wordsL.length = 12 := rfl
  go_enter Try.func130, Try.ntmps130
  go_wp2_with fail
  have hcw : Chg Nob w (w.alloc (.cells #[Value.string { data := #[116, 114, 117, 101] }, Value.string { data := #[102, 97, 108, 115, 101] }, Value.string { data := #[88] }, Value.string { data := #[85] }, Value.string { data := #[86] }, Value.string { data := #[87] }, Value.string { data := #[97, 108, 119, 97, 121, 115] }, Value.string { data := #[101, 118, 101, 110, 116, 117, 97, 108, 108, 121] }, Value.string { data := #[110, 101, 120, 116] }, Value.string { data := #[117, 110, 116, 105, 108] }, Value.string { data := #[114, 101, 108, 101, 97, 115, 101] }, Value.string { data := #[119, 101, 97, 107, 117, 110, 116, 105, 108] }] 9)) := (Chg.refl _ _).alloc _
  generalize (w.alloc (.cells #[Value.string { data := #[116, 114, 117, 101] }, Value.string { data := #[102, 97, 108, 115, 101] }, Value.string { data := #[88] }, Value.string { data := #[85] }, Value.string { data := #[86] }, Value.string { data := #[87] }, Value.string { data := #[97, 108, 119, 97, 121, 115] }, Value.string { data := #[101, 118, 101, 110, 116, 117, 97, 108, 108, 121] }, Value.string { data := #[110, 101, 120, 116] }, Value.string { data := #[117, 110, 116, 105, 108] }, Value.string { data := #[114, 101, 108, 101, 97, 115, 101] }, Value.string { data := #[119, 101, 97, 107, 117, 110, 116, 105, 108] }] 9)) = W1 at *
  go_loopw [4] (fun i wr => ∃ k : Nat, i = .int .i64 k ∧ k ≤ 12 ∧ Hid (∀ j y, j < k → wordsL[j]? = some y → y ≠ x) ∧ wr = W1) (fun i _ => 12 - (intOf i).toNat)
  case atStart => exact ⟨0, rfl, Nat.zero_le _, fun j y h => absurd h (Nat.not_lt_zero j), rfl⟩
  case round =>
    obtain ⟨k, rfl, hk, hno, rfl⟩ := hrel
    by_cases hlt : k < 12
    · obtain ⟨y, hy⟩ : ∃ y, wordsL[k]? = some y := ⟨_, List.getElem?_eq_getElem (by rw [hlen]; exact hlt)⟩
      have hcell := Hc.out k y hy
      have hki : (k : Int) < 12 := by omega
      have hk0 : (0 : Int) ≤ (k : Int) := by omega
      have Hy := Lib.hid hy
      clear hy
      cases hxy : (y == x) with
      | true =>
        have hidx : isWord x = true := by
          have e := beq_iff_eq.1 hxy
          subst e
          exact decide_eq_true (List.mem_of_getElem? Hy.out)
        have Hi := Lib.hid hidx
        clear hidx
        go_wp2_with fail
        go_ret
        exact ⟨by rw [Hi.out]; rfl, hcw⟩
      | false =>
        go_wp2_with fail
        go_roundw
        case rel => exact ⟨k + 1, by go_num, by omega, (show ∀ j y, j < k + 1 → wordsL[j]? = some y → y ≠ x from fun j z hj hz => by
          by_cases e : j = k
          · subst e
            rw [Hy.out] at hz
            cases hz
            rw [beq_eq_false_iff_ne] at hxy
            exact hxy
          · exact hno.out j z (by omega) hz), trivial⟩
        case measure => simp [intOf]; omega
    · obtain rfl : k = 12 := by omega
      have hidx : isWord x = false := decide_eq_false (fun hmem => by
        obtain ⟨j, hj⟩ := List.mem_iff_getElem?.1 hmem
        exact hno.out j x (by have := (List.getElem?_eq_some_iff.1 hj).1; rw [hlen] at this; exact this) hj rfl)
      have Hi := Lib.hid hidx
      clear hidx
      go_wp2_with fail
      go_ret
      exact ⟨by rw [Hi.out]; rfl, hcw⟩

set_option maxRecDepth 100000 in
set_option maxHeartbeats 2000000 in
theorem risname_any (x : List UInt8) (w : World) : Calls Try.prog 101 #[.string ⟨x.toArray⟩] w fun e w' => e = .returned (.bool (nameB x)) ∧ Chg Nob w w' := by
  have hsz : (⟨x.toArray⟩ : ByteArray).size = x.length := by show x.toArray.size = _; simp
  by_cases h1 : x.length < 1
  · have hnil : x = [] := List.eq_nil_of_length_eq_zero (by omega)
    subst hnil
    go_enter Try.func101, Try.ntmps101
    go_wp2_with fail
    go_ret
    exact ⟨rfl, Chg.refl _ _⟩
  · have hl1 : ¬ ((x.length : Int) < 1) := by omega
    by_cases h32 : 32 < x.length
    · have hn : nameB x = false := by unfold nameB; rw [decide_eq_false (by omega)]; simp
      have hl : (32 : Int) < (x.length : Int) := by omega
      have Hn := Lib.hid hn
      clear hn h32
      go_enter Try.func101, Try.ntmps101
      go_wp2_with fail
      go_ret
      exact ⟨by rw [Hn.out]; rfl, Chg.refl _ _⟩
    · have hl : ¬ (32 : Int) < (x.length : Int) := by omega
      go_enter Try.func101, Try.ntmps101
      go_wp2_with fail
      go_loopw [3] (fun i wr => ∃ k : Nat, i = .int .i64 k ∧ k ≤ x.length ∧ Hid (∀ j c, j < k → x[j]? = some c → (letterB c || digitB c) = true) ∧ Hid (0 < k → headB x = true) ∧ wr = w) (fun i _ => x.length - (intOf i).toNat)
      case atStart => exact ⟨0, rfl, Nat.zero_le _, fun j y h => absurd h (Nat.not_lt_zero j), fun h => absurd h (Nat.lt_irrefl 0), rfl⟩
      case round =>
        obtain ⟨k, rfl, hk, hall, hhd, rfl⟩ := hrel
        by_cases hlt : k < x.length
        · have hlt2 : k < (⟨x.toArray⟩ : ByteArray).size := by omega
          obtain ⟨y, hy⟩ : ∃ y, (⟨x.toArray⟩ : ByteArray)[k]'hlt2 = y := ⟨_, rfl⟩
          have hxk : x[k]? = some y := by
            have h2 := Lib.data_getElem? (⟨x.toArray⟩ : ByteArray) _ hlt2
            rw [hy] at h2
            exact h2
          have hki : (k : Int) < (x.length : Int) := by omega
          have hk0 : (0 : Int) ≤ (k : Int) := by omega
          have Hx := Lib.hid hxk
          have hhead : k = 0 → headB x = letterB y := fun e => by
            subst e
            cases x with
            | nil => simp at hxk
            | cons d l => simp at hxk; subst hxk; rfl
          have Hh := Lib.hid hhead
          clear hxk hhead
          go_wp2_with fail
          (with_reducible refine (rletter_any y _).mono ?_)
          rintro e w3 ⟨rfl, rfl⟩
          go_wp2_with fail
          (with_reducible refine (rdigit_any y _).mono ?_)
          rintro e w3 ⟨rfl, rfl⟩
          cases hly : letterB y with
          | true =>
            go_wp2_with fail
            go_roundw
            case rel => exact ⟨k + 1, by go_num, by omega, (show ∀ j c, j < k + 1 → x[j]? = some c → (letterB c || digitB c) = true from fun j z hj hz => by
              by_cases e : j = k
              · subst e
                rw [Hx.out] at hz
                cases hz
                simp [hly]
              · exact hall.out j z (by omega) hz), (show 0 < k + 1 → headB x = true from fun _ => by
                by_cases e : k = 0
                · rw [Hh.out e, hly]
                · exact hhd.out (by omega)), trivial⟩
            case measure => simp [intOf]; omega
          | false =>
            by_cases hbad : digitB y = false ∨ k = 0
            · have hn : nameB x = false := by
                rcases hbad with h | h
                · unfold nameB; rw [not_all_at Hx.out (by simp [hly, h])]; simp
                · unfold nameB; rw [Hh.out h, hly]; simp
              have Hn := Lib.hid hn
              clear hn
              cases hdy : digitB y with
              | false =>
                go_wp2_with fail
                go_ret
                exact ⟨by rw [Hn.out]; rfl, Chg.refl _ _⟩
              | true =>
                have hk00 : k = 0 := by rcases hbad with h | h; rw [hdy] at h; cases h; exact h
                subst hk00
                go_wp2_with fail
                go_ret
                exact ⟨by rw [Hn.out]; rfl, Chg.refl _ _⟩
            · have hdy : digitB y = true := by
                cases h : digitB y with
                | true => rfl
                | false => exact absurd (.inl h) hbad
              have hk1 : ¬ k = 0 := fun h => hbad (.inr h)
              have hk2 : ((k : Int) == 0) = false := by rw [beq_eq_false_iff_ne]; omega
              clear hbad
              go_wp2_with fail
              go_roundw
              case rel => exact ⟨k + 1, by go_num, by omega, (show ∀ j c, j < k + 1 → x[j]? = some c → (letterB c || digitB c) = true from fun j z hj hz => by
                by_cases e : j = k
                · subst e
                  rw [Hx.out] at hz
                  cases hz
                  simp [hdy]
                · exact hall.out j z (by omega) hz), (show 0 < k + 1 → headB x = true from fun _ => hhd.out (by omega)), trivial⟩
              case measure => simp [intOf]; omega
        · obtain rfl : k = x.length := by omega
          go_wp2_with fail
          (with_reducible refine (rword_any x _).mono ?_)
          rintro e w4 ⟨rfl, hc4⟩
          have hn : nameB x = !isWord x := by
            cases hw : isWord x with
            | true => unfold nameB; rw [hw]; simp
            | false => rw [nameB_of (by omega) (hhd.out (by omega)) (all_take hall.out) hw]; rfl
          have Hn := Lib.hid hn
          clear hn
          go_wp2_with fail
          go_ret
          exact ⟨by rw [Hn.out]; rfl, hc4⟩
end Go.Proofs.Ytkgfdgfhpdhhaaa
