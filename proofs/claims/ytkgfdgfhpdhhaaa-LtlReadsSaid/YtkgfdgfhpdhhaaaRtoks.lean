/- The reference's words of a text. Condition: the text is short. -/
import Derived.Test.YtkgfdgfhpdhhaaaPick
import Derived.Test.YtkgfdgfhpdhhaaaLev
namespace Go.Proofs.Ytkgfdgfhpdhhaaa
open Go.ChangeShapes Go.WideShapes Go.RowKit

theorem rblank_any (x : UInt8) (w : World) : Calls Try.prog 71 #[.int .u8 x.toNat] w (Rets (.bool (blankB x)) w) := by
  go_enter Try.func71, Try.ntmps71
  go_wp2
  all_goals go_ret
  all_goals (refine ⟨?_, rfl⟩; show Ending.returned (Value.bool _) = Ending.returned (Value.bool _); refine congrArg (fun q => Ending.returned (Value.bool q)) ?_; rw [Bool.eq_iff_iff]; simp [blankB]; omega)
theorem Try.info77 : (Try.prog.info? 77).map (fun i => (i.zero, i.size, i.bytes)) = some (some (.agg #[.string ⟨#[]⟩, .int .i64 0]), 2, 24) := by kernel_rfl
theorem info77_parts : ∃ i, Try.prog.info? 77 = some i ∧ i.zero = some (.agg #[.string ⟨#[]⟩, .int .i64 0]) ∧ i.size = 2 ∧ i.bytes = 24 := by
  have h := Try.info77
  cases hi : Try.prog.info? 77 with
  | none => rw [hi] at h; simp at h
  | some i => rw [hi] at h; simp at h; exact ⟨i, rfl, h.1, h.2.1, h.2.2⟩
/-- A word behind a row of words. -/
theorem append77 {B : Nat} {w : World} {v : Value} {n : Nat} {xs : List Value} {g : Nat} {s : ByteArray} {p : Int} (h : w.ownsRow B 77 2 v n xs) (hB : B ≤ w.heap.size) (hn : n ≤ 100000000) (hg : w.heap[g]? = some (.cells #[.string s, .int .i64 p] 77 (0, 0))) :
    ∃ g' cap w', (Builtin.append_ #[69, 69] 69 #[v, .slice (some ⟨g, 0, none⟩) 1 1]).run Try.prog w = .ok (.slice (some ⟨g', 0, none⟩) (n + 1) cap) w' ∧ w'.ownsRow B 77 2 (.slice (some ⟨g', 0, none⟩) (n + 1) cap) (n + 1) (xs ++ [.string s, .int .i64 p]) ∧ w.grownBy w' v.ownBlock ∧ (v.ownBlock = some g' ∨ g' = w.heap.size) ∧ g' < w'.heap.size := by
  obtain ⟨i, hi, hz, hs, hb⟩ := info77_parts
  exact run_append_lies (P := Try.prog) w 69 69 B 77 i _ 2 24 Try.underlying69 hi hz hs hb rfl (by decide) v n _ h ⟨g, 0, none⟩ 1 1 [.string s, .int .i64 p] rfl
    (fun j u hj => by rw [Go.WideShapes.add_plain, Nat.zero_add]; exact cell_row hg j (by simpa using hj)) (by intro u hu; simp at hu; rcases hu with rfl | rfl <;> rfl) (by decide) (by unfold maxLen; omega) (by omega) hB _ rfl
def fromL : List (List UInt8) := [[47, 92], [92, 47], [97, 108, 119, 97, 121, 115], [101, 118, 101, 110, 116, 117, 97, 108, 108, 121], [110, 101, 120, 116], [117, 110, 116, 105, 108], [114, 101, 108, 101, 97, 115, 101], [119, 101, 97, 107, 117, 110, 116, 105, 108]]
def toL : List (List UInt8) := [[38, 38], [124, 124], [91, 93], [60, 62], [88], [85], [86], [87]]
theorem to_said {j : Nat} {y : List UInt8} (h : fromL[j]? = some y) : toL[j]? = some (saidL y) := by
  have hj : j < 8 := (List.getElem?_eq_some_iff.1 h).1
  match j, hj, h with
  | 0, _, h => cases h; rfl
  | 1, _, h => cases h; rfl
  | 2, _, h => cases h; rfl
  | 3, _, h => cases h; rfl
  | 4, _, h => cases h; rfl
  | 5, _, h => cases h; rfl
  | 6, _, h => cases h; rfl
  | 7, _, h => cases h; rfl
theorem said_not {f : List UInt8} (h : f ∉ fromL) : saidL f = f := by
  simp only [fromL, List.mem_cons, List.not_mem_nil, or_false, not_or] at h
  unfold saidL
  rw [if_neg h.1, if_neg h.2.1, if_neg h.2.2.1, if_neg h.2.2.2.1, if_neg h.2.2.2.2.1, if_neg h.2.2.2.2.2.1, if_neg h.2.2.2.2.2.2.1, if_neg h.2.2.2.2.2.2.2]
/-- A word, said otherwise if it is one of the first j. -/
def saidUp (j : Nat) (f : List UInt8) : List UInt8 := if f ∈ fromL.take j then saidL f else f
theorem saidUp_zero (f : List UInt8) : saidUp 0 f = f := if_neg (by simp)
theorem saidUp_end (f : List UInt8) : saidUp 8 f = saidL f := by
  unfold saidUp
  rw [List.take_of_length_le (by decide)]
  split
  · rfl
  · rename_i h; exact (said_not h).symm
theorem saidUp_yes {j : Nat} {y f : List UInt8} (h : fromL[j]? = some y) (e : (y == f) = true) : saidUp (j + 1) f = saidL y := by
  obtain rfl := beq_iff_eq.1 e
  exact if_pos (List.mem_take_iff_getElem.2 ⟨j, by have := (List.getElem?_eq_some_iff.1 h).1; omega, (List.getElem?_eq_some_iff.1 h).2⟩)
theorem saidUp_no {j : Nat} {y f : List UInt8} (h : fromL[j]? = some y) (e : (y == f) = false) : saidUp (j + 1) f = saidUp j f := by
  have hm : f ∈ fromL.take (j + 1) ↔ f ∈ fromL.take j := by
    rw [List.take_add_one, h]
    simp only [Option.toList, List.mem_append, List.mem_singleton]
    constructor
    · rintro (h | rfl)
      · exact h
      · simp at e
    · exact .inl
  unfold saidUp
  by_cases hf : f ∈ fromL.take j
  · rw [if_pos hf, if_pos (hm.2 hf)]
  · rw [if_neg hf, if_neg (fun h => hf (hm.1 h))]
theorem row_texts {W : World} {B : Nat} {L : List (List UInt8)} (h : W.heap[B]? = some (.cells (L.map (fun x => Value.string ⟨x.toArray⟩)).toArray 9 (0, 0))) : ∀ (j : Nat) (y : List UInt8), L[j]? = some y → W.cell? ⟨B, j, none⟩ = some (.string ⟨y.toArray⟩) := fun j y hy => cell_row h j (by simp [hy])
def RTokPost (s : List UInt8) (w : World) (e : Ending) (w' : World) : Prop :=
  Chg Nob w w' ∧ ((∃ l v, toks 0 s = .ok l ∧ e = .returned (.tuple #[v, .int .i64 (-1)]) ∧ w'.ownsRow w.heap.size 77 2 v l.length (tokCells l)) ∨
    ∃ p : Nat, toks 0 s = .error p ∧ e = .returned (.tuple #[.slice none 0 0, .int .i64 (p : Int)]))
/-- What is known where words have been found up to a place. -/
structure Tk7 (s : List UInt8) (B : Nat) (V : World) (k : Nat) (acc : List Tok) (v : Value) (wr : World) : Prop where
  eq : toks 0 s = comb acc (toks k (s.drop k))
  le : acc.length ≤ k
  row : wr.ownsRow B 77 2 v acc.length (tokCells acc)
theorem first_none {r : List UInt8} (h : ∀ (x : Nat) (y : List UInt8), signsL[x]? = some y → y.isPrefixOf r = false) : firstL r = if 32 < (runL r).length then [] else runL r := by
  have hfind : signsL.find? (fun w => w.isPrefixOf r) = none := by
    rw [List.find?_eq_none]
    intro y hy
    obtain ⟨j, hj⟩ := List.mem_iff_getElem?.1 hy
    rw [h j y hj]
    simp
  unfold firstL
  rw [hfind]
theorem first_some {r y : List UInt8} {k : Nat} (hy : signsL[k]? = some y) (hp : y.isPrefixOf r = true) (hno : ∀ (j : Nat) (z : List UInt8), j < k → signsL[j]? = some z → z.isPrefixOf r = false) : firstL r = y := by
  unfold firstL
  rw [find_found (p := fun w => w.isPrefixOf r) hy hp hno]

set_option maxRecDepth 100000 in
set_option maxHeartbeats 8000000 in
theorem rtokens_any (s : List UInt8) (w : World) (hs : s.length ≤ 4096) : Calls Try.prog 47 #[.string ⟨s.toArray⟩] w (RTokPost s w) := by
  have hsz : (⟨s.toArray⟩ : ByteArray).size = s.length := by show s.toArray.size = _; simp
  obtain ⟨V, hVe, hcV, hsV, hk1, hk2, hk3⟩ : ∃ V, V = ((w.alloc (.cells (signsL.map (fun x => Value.string ⟨x.toArray⟩)).toArray 9)).alloc (.cells (fromL.map (fun x => Value.string ⟨x.toArray⟩)).toArray 9)).alloc (.cells (toL.map (fun x => Value.string ⟨x.toArray⟩)).toArray 9) ∧ Chg Nob w V ∧ V.heap.size = w.heap.size + 3 ∧
      V.heap[w.heap.size]? = some (.cells (signsL.map (fun x => Value.string ⟨x.toArray⟩)).toArray 9 (0, 0)) ∧ V.heap[w.heap.size + 1]? = some (.cells (fromL.map (fun x => Value.string ⟨x.toArray⟩)).toArray 9 (0, 0)) ∧ V.heap[w.heap.size + 1 + 1]? = some (.cells (toL.map (fun x => Value.string ⟨x.toArray⟩)).toArray 9 (0, 0)) := by
    have h1 := heap_alloc_new (w.alloc (.cells (signsL.map (fun x => Value.string ⟨x.toArray⟩)).toArray 9)) (.cells (fromL.map (fun x => Value.string ⟨x.toArray⟩)).toArray 9)
    have h2 := heap_alloc_new ((w.alloc (.cells (signsL.map (fun x => Value.string ⟨x.toArray⟩)).toArray 9)).alloc (.cells (fromL.map (fun x => Value.string ⟨x.toArray⟩)).toArray 9)) (.cells (toL.map (fun x => Value.string ⟨x.toArray⟩)).toArray 9)
    rw [World.size_alloc] at h1
    rw [World.size_alloc, World.size_alloc] at h2
    exact ⟨_, rfl, (((Chg.refl _ _).alloc _).alloc _).alloc _, by rw [World.size_alloc, World.size_alloc, World.size_alloc], (((Chg.refl Nob _).alloc _).alloc _).at (heap_alloc_new w _) (fun e => e), ((Chg.refl Nob _).alloc _).at h1 (fun e => e), h2⟩
  have HcS := Lib.hid (row_texts hk1)
  have HcF := Lib.hid (row_texts hk2)
  have HcT := Lib.hid (row_texts hk3)
  have HsV := Lib.hid hsV
  rw [show (signsL.map (fun x => Value.string ⟨x.toArray⟩)).toArray = #[Value.string ⟨#[60, 45, 62]⟩, Value.string ⟨#[91, 93]⟩, Value.string ⟨#[60, 62]⟩, Value.string ⟨#[45, 62]⟩, Value.string ⟨#[38, 38]⟩, Value.string ⟨#[47, 92]⟩, Value.string ⟨#[124, 124]⟩, Value.string ⟨#[92, 47]⟩, Value.string ⟨#[33]⟩, Value.string ⟨#[40]⟩, Value.string ⟨#[41]⟩] from rfl,
    show (fromL.map (fun x => Value.string ⟨x.toArray⟩)).toArray = #[Value.string ⟨#[47, 92]⟩, Value.string ⟨#[92, 47]⟩, Value.string ⟨#[97, 108, 119, 97, 121, 115]⟩, Value.string ⟨#[101, 118, 101, 110, 116, 117, 97, 108, 108, 121]⟩, Value.string ⟨#[110, 101, 120, 116]⟩, Value.string ⟨#[117, 110, 116, 105, 108]⟩, Value.string ⟨#[114, 101, 108, 101, 97, 115, 101]⟩, Value.string ⟨#[119, 101, 97, 107, 117, 110, 116, 105, 108]⟩] from rfl,
    show (toL.map (fun x => Value.string ⟨x.toArray⟩)).toArray = #[Value.string ⟨#[38, 38]⟩, Value.string ⟨#[124, 124]⟩, Value.string ⟨#[91, 93]⟩, Value.string ⟨#[60, 62]⟩, Value.string ⟨#[88]⟩, Value.string ⟨#[85]⟩, Value.string ⟨#[86]⟩, Value.string ⟨#[87]⟩] from rfl] at hVe
  clear hk1 hk2 hk3 hsV
  go_enter Try.func47, Try.ntmps47
  go_wp2_with fail
  rw [← hVe]
  clear hVe
  go_loopw [7, 8] (fun v i wr => ∃ (k : Nat) (acc : List Tok) (sl : Value), sl = v ∧ i = .int .i64 (k : Int) ∧ k ≤ s.length ∧ Hid (Tk7 s V.heap.size V k acc sl wr) ∧ Chg Nob V wr) (fun _ i _ => s.length - (intOf i).toNat)
  case atStart => exact ⟨0, [], _, rfl, rfl, Nat.zero_le _, ⟨by rw [List.drop_zero]; cases toks 0 s <;> rfl, Nat.le_refl _, World.ownsRow_nil _ _ _ _⟩, Chg.refl _ _⟩
  case round =>
    obtain ⟨k, acc, sl, rfl, rfl, hk, hT, hc⟩ := hrel
    by_cases hlt : k < s.length
    · have hlt2 : k < (⟨s.toArray⟩ : ByteArray).size := by omega
      obtain ⟨y0, hy⟩ : ∃ y, (⟨s.toArray⟩ : ByteArray)[k]'hlt2 = y := ⟨_, rfl⟩
      have hxk : s[k]? = some y0 := by
        have h2 := Lib.data_getElem? (⟨s.toArray⟩ : ByteArray) _ hlt2
        rw [hy] at h2
        exact h2
      have hki : (k : Int) < (s.length : Int) := by omega
      have hk0 : (0 : Int) ≤ (k : Int) := by omega
      have Hd := Lib.hid (drop_at hxk)
      clear hxk
      go_wp2_with fail
      (with_reducible refine (rblank_any y0 _).mono ?_)
      rintro e w3 ⟨rfl, rfl⟩
      cases hbl : blankB y0 with
      | true =>
        have Hn : Hid (Tk7 s V.heap.size V (k + 1) acc sl wr) := ⟨by rw [hT.out.eq, Hd.out, toks_blank hbl], by have := hT.out.le; omega, hT.out.row⟩
        go_wp2_with fail
        go_roundw
        case rel => exact ⟨k + 1, acc, _, rfl, by go_num, by omega, Hn, hc⟩
        case measure => simp [intOf]; omega
      | false =>
        go_wp2_with fail
        go_loopw [10, 11] (fun p i wr' => ∃ (f : List UInt8) (j : Nat), p = .string ⟨f.toArray⟩ ∧ i = .int .i64 (j : Int) ∧ j ≤ 11 ∧ Chg Nob wr wr' ∧ ((f = [] ∧ Hid (∀ (x : Nat) (y : List UInt8), x < j → signsL[x]? = some y → y.isPrefixOf (s.drop k) = false)) ∨ ((f == []) = false ∧ Hid (f = firstL (s.drop k))))) (fun _ i _ => 11 - (intOf i).toNat)
        case atStart => exact ⟨[], 0, rfl, rfl, by omega, Chg.refl _ _, .inl ⟨rfl, fun x y h => absurd h (Nat.not_lt_zero x)⟩⟩
        case round =>
          obtain ⟨f, j, rfl, rfl, hj, hcj, ⟨rfl, hno⟩ | ⟨hfn, Hf⟩⟩ := hrel
          · by_cases hj11 : j < 11
            · obtain ⟨y, hyj⟩ : ∃ y, signsL[j]? = some y := ⟨_, List.getElem?_eq_getElem (by show j < 11; exact hj11)⟩
              have hcs := (hc.trans1 hcj).cell' (HcS.out j y hyj) (fun e => e)
              have hji : (j : Int) < 11 := by omega
              have hj0 : (0 : Int) ≤ (j : Int) := by omega
              have hysz : (⟨y.toArray⟩ : ByteArray).size = y.length := by show y.toArray.size = _; simp
              have hyn : (y == []) = false := by
                rw [beq_eq_false_iff_ne]
                rintro rfl
                have := List.mem_of_getElem? hyj
                simp [signsL] at this
              have Hyj := Lib.hid hyj
              clear hyj
              cases hp : y.isPrefixOf (s.drop k) with
              | true =>
                have hpre := List.isPrefixOf_iff_prefix.1 hp
                have hle : y.length ≤ s.length - k := by have := hpre.length_le; rwa [List.length_drop] at this
                have hgi : (y.length : Int) ≤ (s.length : Int) - (k : Int) := by omega
                have hg : decide ((y.length : Int) ≤ (s.length : Int) - (k : Int)) = true := by simpa using hgi
                have hext : (⟨s.toArray⟩ : ByteArray).extract k (k + y.length) = ⟨y.toArray⟩ := by
                  rw [extract_list, Nat.add_sub_cancel_left, ← List.prefix_iff_eq_take.1 hpre]
                have Hf : Hid (y = firstL (s.drop k)) := (first_some Hyj.out hp hno.out).symm
                clear hpre
                go_wp2_with fail
                go_quiet (fail)
                go_wp2_with fail
                go_roundw
                case rel => exact ⟨y, j + 1, rfl, by go_num, by omega, hcj.drewN _, .inr ⟨hyn, Hf⟩⟩
                case measure => simp [intOf]; omega
              | false =>
                have Hno : Hid (∀ (x : Nat) (z : List UInt8), x < j + 1 → signsL[x]? = some z → z.isPrefixOf (s.drop k) = false) := (show ∀ (x : Nat) (z : List UInt8), x < j + 1 → signsL[x]? = some z → z.isPrefixOf (s.drop k) = false from fun x z hx hz => by
                  by_cases e : x = j
                  · subst e
                    rw [Hyj.out] at hz
                    cases hz
                    exact hp
                  · exact hno.out x z (by omega) hz)
                by_cases hle : y.length ≤ s.length - k
                · have hgi : (y.length : Int) ≤ (s.length : Int) - (k : Int) := by omega
                  have hg : decide ((y.length : Int) ≤ (s.length : Int) - (k : Int)) = true := by simpa using hgi
                  obtain ⟨tk, htk⟩ : ∃ tk, tk = (s.drop k).take y.length := ⟨_, rfl⟩
                  have hext : (⟨s.toArray⟩ : ByteArray).extract k (k + y.length) = ⟨tk.toArray⟩ := by
                    rw [extract_list, Nat.add_sub_cancel_left, htk]
                  have hq : (tk == y) = false := by
                    rw [beq_eq_false_iff_ne]
                    intro e
                    have : y <+: s.drop k := by rw [← e, htk]; exact List.take_prefix _ _
                    rw [List.isPrefixOf_iff_prefix.2 this] at hp
                    cases hp
                  clear htk
                  go_wp2_with fail
                  go_quiet (fail)
                  go_wp2_with fail
                  go_roundw
                  case rel => exact ⟨[], j + 1, rfl, by go_num, by omega, hcj.drewN _, .inl ⟨rfl, Hno⟩⟩
                  case measure => simp [intOf]; omega
                · have hgi : ¬ (y.length : Int) ≤ (s.length : Int) - (k : Int) := by omega
                  have hg : decide ((y.length : Int) ≤ (s.length : Int) - (k : Int)) = false := by simpa using hgi
                  go_wp2_with fail
                  go_quiet (fail)
                  go_wp2_with fail
                  go_roundw
                  case rel => exact ⟨[], j + 1, rfl, by go_num, by omega, hcj.drewN _, .inl ⟨rfl, Hno⟩⟩
                  case measure => simp [intOf]; omega
            · obtain rfl : j = 11 := by omega
              have Hfirst := Lib.hid (first_none (fun x y h => hno.out x y (List.getElem?_eq_some_iff.1 h).1 h))
              have Herr : Hid (firstL (s.drop k) = [] → toks 0 s = .error k) := fun h => by rw [hT.out.eq, Hd.out, toks_err hbl (by rw [← Hd.out]; exact h)]; rfl
              have hj11i : ¬ ((11 : Int) < 11) := by omega
              clear hno
              go_wp2_with fail
              (with_reducible refine (rletter_any y0 _).mono ?_)
              rintro e w4 ⟨rfl, rfl⟩
              cases hly : letterB y0 with
              | false =>
                have He : Hid (toks 0 s = .error k) := Herr.out (by
                  have e : runL (s.drop k) = [] := by rw [Hd.out]; exact if_neg (by rw [hly]; simp)
                  rw [Hfirst.out, e]; rfl)
                go_wp2
                go_ret2
                exact ⟨hcV.trans1 (hc.trans1 hcj), .inr ⟨k, He.out, rfl⟩⟩
              | true =>
                go_wp2_with fail
                go_loopw [12] (fun i wr' => ∃ n : Nat, i = .int .i64 (n : Int) ∧ k ≤ n ∧ n ≤ s.length ∧ Hid ((runL (s.drop k)).take (n - k) = (s.drop k).take (n - k) ∧ n - k ≤ (runL (s.drop k)).length) ∧ Chg Nob wr wr') (fun i _ => s.length - (intOf i).toNat)
                case atStart => exact ⟨k, rfl, Nat.le_refl _, hk, ⟨by rw [Nat.sub_self]; rfl, by omega⟩, Chg.refl _ _⟩
                case round =>
                  obtain ⟨n, rfl, hkn, hnl, hrun, hcn⟩ := hrel
                  by_cases hltn : n < s.length
                  · have hltn2 : n < (⟨s.toArray⟩ : ByteArray).size := by omega
                    obtain ⟨c, hcn0⟩ : ∃ y, (⟨s.toArray⟩ : ByteArray)[n]'hltn2 = y := ⟨_, rfl⟩
                    have hxn : (s.drop k)[n - k]? = some c := by
                      have h2 := Lib.data_getElem? (⟨s.toArray⟩ : ByteArray) _ hltn2
                      rw [hcn0] at h2
                      rw [List.getElem?_drop, show k + (n - k) = n by omega]
                      exact h2
                    have hni : (n : Int) < (s.length : Int) := by omega
                    have hn0 : (0 : Int) ≤ (n : Int) := by omega
                    have Hxn := Lib.hid hxn
                    clear hxn
                    go_wp2_with fail
                    (with_reducible refine (rletter_any c _).mono ?_)
                    rintro e w5 ⟨rfl, rfl⟩
                    cases hlc : letterB c with
                    | true =>
                      have hnext := run_next Hxn.out hrun.out (.inl hlc)
                      rw [show n - k + 1 = n + 1 - k by omega] at hnext
                      have Hn := Lib.hid hnext
                      clear hnext
                      go_wp2_with fail
                      go_roundw
                      case rel => exact ⟨n + 1, by go_num, by omega, by omega, Hn, hcn⟩
                      case measure => simp [intOf]; omega
                    | false =>
                      have hkn2 : k < n := by
                        rcases Nat.lt_or_ge k n with h | h
                        · exact h
                        · exfalso
                          have e : n = k := by omega
                          subst e
                          have h1 := Hxn.out
                          rw [Hd.out, Nat.sub_self] at h1
                          have e2 : y0 = c := by simpa using h1
                          rw [e2, hlc] at hly
                          cases hly
                      go_wp2_with fail
                      (with_reducible refine (rdigit_any c _).mono ?_)
                      rintro e w5 ⟨rfl, rfl⟩
                      cases hdc : digitB c with
                      | true =>
                        have hnext := run_next Hxn.out hrun.out (.inr ⟨by omega, hdc⟩)
                        rw [show n - k + 1 = n + 1 - k by omega] at hnext
                        have Hn := Lib.hid hnext
                        clear hnext
                        go_wp2_with fail
                        go_roundw
                        case rel => exact ⟨n + 1, by go_num, by omega, by omega, Hn, hcn⟩
                        case measure => simp [intOf]; omega
                      | false =>
                        have hlenr := run_stop hrun.out.2 (.inr ⟨c, Hxn.out, hlc, .inr hdc⟩)
                        have Hfe := Lib.hid (first_end Hfirst.out hrun.out.1 hlenr)
                        clear hlenr
                        by_cases h32 : 32 < n - k
                        · have h32i : ¬ ((n : Int) - (k : Int) ≤ 32) := by omega
                          have He := Lib.hid (Herr.out (by rw [Hfe.out, if_pos h32]))
                          go_wp2
                          go_ret2
                          exact ⟨hcV.trans1 ((hc.trans1 hcj).trans1 hcn), .inr ⟨k, He.out, rfl⟩⟩
                        · have h32i : (n : Int) - (k : Int) ≤ 32 := by omega
                          obtain ⟨f, hf⟩ : ∃ f, f = (s.drop k).take (n - k) := ⟨_, rfl⟩
                          have hext : (⟨s.toArray⟩ : ByteArray).extract k n = ⟨f.toArray⟩ := by rw [extract_list, hf]
                          have hfn : (f == []) = false := by
                            rw [beq_eq_false_iff_ne]
                            intro e
                            have h1 := congrArg List.length hf
                            rw [e, List.length_take, List.length_drop] at h1
                            simp only [List.length_nil] at h1
                            omega
                          have Hf : Hid (f = firstL (s.drop k)) := (show f = _ by rw [Hfe.out, if_neg h32, hf])
                          clear hf
                          rename World => wq
                          have hcrq := hcj.trans1 hcn
                          have hcq := hc.trans1 hcrq
                          have hfl := firstL_length (s.drop k)
                          rw [← Hf.out, List.length_drop] at hfl
                          have hfpos : 0 < f.length := List.length_pos_iff.2 (beq_eq_false_iff_ne.1 hfn)
                          have Hn : Hid (toks 0 s = comb (acc ++ [(saidL f, k)]) (toks (k + f.length) (s.drop (k + f.length)))) := (show toks 0 s = comb (acc ++ [(saidL f, k)]) (toks (k + f.length) (s.drop (k + f.length))) by
                            have e2 : (y0 :: s.drop (k + 1)).drop f.length = s.drop (k + f.length) := by rw [← Hd.out, List.drop_drop]
                            rw [hT.out.eq, Hd.out, toks_word hbl (by rw [← Hd.out]; exact Hf.out.symm) (beq_eq_false_iff_ne.1 hfn), e2]
                            cases toks (k + f.length) (s.drop (k + f.length)) with
                            | error e => rfl
                            | ok l => show Except.ok _ = Except.ok _; rw [List.append_assoc]; rfl)
                          obtain ⟨X, hXe, hcX, hbX⟩ : ∃ X, X = wq.alloc (.cells #[.string ⟨f.toArray⟩, .int .i64 (k : Int)] 77) ∧ Chg Nob wq X ∧ X.heap[wq.heap.size]? = some (.cells #[.string ⟨f.toArray⟩, .int .i64 (k : Int)] 77 (0, 0)) := ⟨_, rfl, (Chg.refl _ _).alloc _, heap_alloc_new _ _⟩
                          have hzq := hcq.size
                          have hzX : X.heap.size = wq.heap.size + 1 := by rw [hXe, World.size_alloc]
                          have HzX := Lib.hid hzX
                          have HbX := Lib.hid hbX
                          have hfsz : (⟨f.toArray⟩ : ByteArray).size = f.length := by show f.toArray.size = _; simp
                          clear hbX hzX
                          go_wp2_with fail
                          all_goals
                            rw [← hXe]
                            clear hXe
                            go_loopw [14] (fun i wr' => ∃ j : Nat, i = .int .i64 (j : Int) ∧ j ≤ 8 ∧ Hid (wr'.heap[wq.heap.size]? = some (.cells #[.string ⟨(saidUp j f).toArray⟩, .int .i64 (k : Int)] 77 (0, 0))) ∧ Chg (At1 wq.heap.size) X wr') (fun i _ => 8 - (intOf i).toNat)
                            case atStart => exact ⟨0, rfl, by omega, (show X.heap[wq.heap.size]? = _ by rw [saidUp_zero]; exact HbX.out), Chg.refl _ _⟩
                            case round =>
                              obtain ⟨j, rfl, hj, hbx, hcx⟩ := hrel
                              rename World => wrX
                              have hcVx : Chg (At1 wq.heap.size) V _ := (hcq.trans1 hcX).any.trans1 hcx
                              obtain ⟨e0, e1, e2, e3⟩ := cell_two hbx.out
                              by_cases hj8 : j < 8
                              · obtain ⟨y, hy⟩ : ∃ y, fromL[j]? = some y := ⟨_, List.getElem?_eq_getElem (by show j < 8; exact hj8)⟩
                                have hsV := HsV.out
                                have hcf := hcVx.cell' (HcF.out j y hy) (fun e => by have e : w.heap.size + 1 = wq.heap.size := e; omega)
                                have hct := hcVx.cell' (HcT.out j _ (to_said hy)) (fun e => by have e : w.heap.size + 1 + 1 = wq.heap.size := e; omega)
                                have hji : (j : Int) < 8 := by omega
                                have hj0 : (0 : Int) ≤ (j : Int) := by omega
                                cases hyf : (y == f) with
                                | true =>
                                  have Hb2 : Hid ((wrX.setCell ⟨wq.heap.size, 0, none⟩ (.string ⟨(saidL y).toArray⟩)).heap[wq.heap.size]? = some (.cells #[.string ⟨(saidUp (j + 1) f).toArray⟩, .int .i64 (k : Int)] 77 (0, 0))) := (show _ = _ by rw [saidUp_yes hy hyf]; exact block_two_set0 hbx.out)
                                  have Hc2 := Lib.hid (hcx.setCell (p := ⟨wq.heap.size, 0, none⟩) (fun _ => rfl) (.string ⟨(saidL y).toArray⟩))
                                  clear hy
                                  go_wp2_with fail
                                  go_roundw
                                  case rel => exact ⟨j + 1, by go_num, by omega, Hb2, Hc2.out⟩
                                  case measure => simp [intOf]; omega
                                | false =>
                                  have Hb2 : Hid (wrX.heap[wq.heap.size]? = some (.cells #[.string ⟨(saidUp (j + 1) f).toArray⟩, .int .i64 (k : Int)] 77 (0, 0))) := (show _ = _ by rw [saidUp_no hy hyf]; exact hbx.out)
                                  clear hy
                                  go_wp2_with fail
                                  go_roundw
                                  case rel => exact ⟨j + 1, by go_num, by omega, Hb2, hcx⟩
                                  case measure => simp [intOf]; omega
                              · obtain rfl : j = 8 := by omega
                                have hbx8 := hbx.out
                                rw [saidUp_end] at hbx8 e0
                                have hzX := HzX.out
                                have hcVn : Chg Nob V wrX := hcVx.mono (fun i hi e => by have e : i = wq.heap.size := e; omega)
                                have hzx := hcx.size
                                have hrow1 := ownsRow_chg (ownsRow_chg hT.out.row hcrq (fun _ _ e => e)) hcX (fun _ _ e => e)
                                have hrow2 := ownsRow_chg hrow1 hcx (fun q hq e => by
                                  have e : q = wq.heap.size := e
                                  have := ((ownsRow_chg hT.out.row hcrq (fun _ _ e => e)).lt q hq).2
                                  omega)
                                obtain ⟨g', cap6, w6, hrun, hrow6, hgr, _, _⟩ := append77 (s := ⟨(saidL f).toArray⟩) (p := k) (ownsRow_chg hrow2 ((Chg.refl Nob wrX).alloc (.cells #[.string ⟨(saidL f).toArray⟩, .int .i64 k] 77)) (fun _ _ e => e)) (by rw [World.size_alloc]; omega) (by have := hT.out.le; omega) (heap_alloc_new wrX _)
                                rw [tokCells_snoc] at hrow6
                                have hc6 := grown_chg (hcVn.alloc (.cells #[.string ⟨(saidL f).toArray⟩, .int .i64 k] 77)) (ownsRow_chg hrow2 ((Chg.refl Nob wrX).alloc _) (fun _ _ e => e)) (Nat.le_refl _) hgr
                                have Hrun := Lib.hid hrun
                                have HT6 : Hid (Tk7 s V.heap.size V (k + f.length) (acc ++ [(saidL f, k)]) (.slice (some ⟨g', 0, none⟩) (acc.length + 1) cap6) w6) := ⟨Hn.out, by rw [List.length_append]; have := hT.out.le; simp only [List.length_cons, List.length_nil]; omega, by rw [List.length_append]; exact hrow6⟩
                                have hkf : k + f.length ≤ s.length := by omega
                                have hj8i : ¬ ((8 : Int) < 8) := by omega
                                clear hrun hrow6 hrow1 hrow2 hgr hbx8
                                go_wp2_with (refine wpList_append_known rfl _ _ 69 69 rfl _ _ rfl rfl _ w6 Hrun.out ?_)
                                go_roundw
                                case rel => exact ⟨k + f.length, acc ++ [(saidL f, k)], _, rfl, by go_num, hkf, HT6, hc6⟩
                                case measure => simp [intOf]; omega
                  · obtain rfl : n = s.length := by omega
                    have hkn2 : k < s.length := hlt
                    have hlenr := run_stop hrun.out.2 (.inl (by rw [List.getElem?_drop]; exact List.getElem?_eq_none_iff.2 (by omega)))
                    have Hfe := Lib.hid (first_end Hfirst.out hrun.out.1 hlenr)
                    clear hlenr
                    by_cases h32 : 32 < s.length - k
                    · have h32i : ¬ ((s.length : Int) - (k : Int) ≤ 32) := by omega
                      have He := Lib.hid (Herr.out (by rw [Hfe.out, if_pos h32]))
                      go_wp2
                      go_ret2
                      exact ⟨hcV.trans1 ((hc.trans1 hcj).trans1 hcn), .inr ⟨k, He.out, rfl⟩⟩
                    · have h32i : (s.length : Int) - (k : Int) ≤ 32 := by omega
                      obtain ⟨f, hf⟩ : ∃ f, f = (s.drop k).take (s.length - k) := ⟨_, rfl⟩
                      have hext : (⟨s.toArray⟩ : ByteArray).extract k s.length = ⟨f.toArray⟩ := by rw [extract_list, hf]
                      have hfn : (f == []) = false := by
                        rw [beq_eq_false_iff_ne]
                        intro e
                        have h1 := congrArg List.length hf
                        rw [e, List.length_take, List.length_drop] at h1
                        simp only [List.length_nil] at h1
                        omega
                      have Hf : Hid (f = firstL (s.drop k)) := (show f = _ by rw [Hfe.out, if_neg h32, hf])
                      clear hf
                      rename World => wq
                      have hcrq := hcj.trans1 hcn
                      have hcq := hc.trans1 hcrq
                      have hfl := firstL_length (s.drop k)
                      rw [← Hf.out, List.length_drop] at hfl
                      have hfpos : 0 < f.length := List.length_pos_iff.2 (beq_eq_false_iff_ne.1 hfn)
                      have Hn : Hid (toks 0 s = comb (acc ++ [(saidL f, k)]) (toks (k + f.length) (s.drop (k + f.length)))) := (show toks 0 s = comb (acc ++ [(saidL f, k)]) (toks (k + f.length) (s.drop (k + f.length))) by
                        have e2 : (y0 :: s.drop (k + 1)).drop f.length = s.drop (k + f.length) := by rw [← Hd.out, List.drop_drop]
                        rw [hT.out.eq, Hd.out, toks_word hbl (by rw [← Hd.out]; exact Hf.out.symm) (beq_eq_false_iff_ne.1 hfn), e2]
                        cases toks (k + f.length) (s.drop (k + f.length)) with
                        | error e => rfl
                        | ok l => show Except.ok _ = Except.ok _; rw [List.append_assoc]; rfl)
                      obtain ⟨X, hXe, hcX, hbX⟩ : ∃ X, X = wq.alloc (.cells #[.string ⟨f.toArray⟩, .int .i64 (k : Int)] 77) ∧ Chg Nob wq X ∧ X.heap[wq.heap.size]? = some (.cells #[.string ⟨f.toArray⟩, .int .i64 (k : Int)] 77 (0, 0)) := ⟨_, rfl, (Chg.refl _ _).alloc _, heap_alloc_new _ _⟩
                      have hzq := hcq.size
                      have hzX : X.heap.size = wq.heap.size + 1 := by rw [hXe, World.size_alloc]
                      have HzX := Lib.hid hzX
                      have HbX := Lib.hid hbX
                      have hfsz : (⟨f.toArray⟩ : ByteArray).size = f.length := by show f.toArray.size = _; simp
                      clear hbX hzX
                      go_wp2_with fail
                      all_goals
                        rw [← hXe]
                        clear hXe
                        go_loopw [14] (fun i wr' => ∃ j : Nat, i = .int .i64 (j : Int) ∧ j ≤ 8 ∧ Hid (wr'.heap[wq.heap.size]? = some (.cells #[.string ⟨(saidUp j f).toArray⟩, .int .i64 (k : Int)] 77 (0, 0))) ∧ Chg (At1 wq.heap.size) X wr') (fun i _ => 8 - (intOf i).toNat)
                        case atStart => exact ⟨0, rfl, by omega, (show X.heap[wq.heap.size]? = _ by rw [saidUp_zero]; exact HbX.out), Chg.refl _ _⟩
                        case round =>
                          obtain ⟨j, rfl, hj, hbx, hcx⟩ := hrel
                          rename World => wrX
                          have hcVx : Chg (At1 wq.heap.size) V _ := (hcq.trans1 hcX).any.trans1 hcx
                          obtain ⟨e0, e1, e2, e3⟩ := cell_two hbx.out
                          by_cases hj8 : j < 8
                          · obtain ⟨y, hy⟩ : ∃ y, fromL[j]? = some y := ⟨_, List.getElem?_eq_getElem (by show j < 8; exact hj8)⟩
                            have hsV := HsV.out
                            have hcf := hcVx.cell' (HcF.out j y hy) (fun e => by have e : w.heap.size + 1 = wq.heap.size := e; omega)
                            have hct := hcVx.cell' (HcT.out j _ (to_said hy)) (fun e => by have e : w.heap.size + 1 + 1 = wq.heap.size := e; omega)
                            have hji : (j : Int) < 8 := by omega
                            have hj0 : (0 : Int) ≤ (j : Int) := by omega
                            cases hyf : (y == f) with
                            | true =>
                              have Hb2 : Hid ((wrX.setCell ⟨wq.heap.size, 0, none⟩ (.string ⟨(saidL y).toArray⟩)).heap[wq.heap.size]? = some (.cells #[.string ⟨(saidUp (j + 1) f).toArray⟩, .int .i64 (k : Int)] 77 (0, 0))) := (show _ = _ by rw [saidUp_yes hy hyf]; exact block_two_set0 hbx.out)
                              have Hc2 := Lib.hid (hcx.setCell (p := ⟨wq.heap.size, 0, none⟩) (fun _ => rfl) (.string ⟨(saidL y).toArray⟩))
                              clear hy
                              go_wp2_with fail
                              go_roundw
                              case rel => exact ⟨j + 1, by go_num, by omega, Hb2, Hc2.out⟩
                              case measure => simp [intOf]; omega
                            | false =>
                              have Hb2 : Hid (wrX.heap[wq.heap.size]? = some (.cells #[.string ⟨(saidUp (j + 1) f).toArray⟩, .int .i64 (k : Int)] 77 (0, 0))) := (show _ = _ by rw [saidUp_no hy hyf]; exact hbx.out)
                              clear hy
                              go_wp2_with fail
                              go_roundw
                              case rel => exact ⟨j + 1, by go_num, by omega, Hb2, hcx⟩
                              case measure => simp [intOf]; omega
                          · obtain rfl : j = 8 := by omega
                            have hbx8 := hbx.out
                            rw [saidUp_end] at hbx8 e0
                            have hzX := HzX.out
                            have hcVn : Chg Nob V wrX := hcVx.mono (fun i hi e => by have e : i = wq.heap.size := e; omega)
                            have hzx := hcx.size
                            have hrow1 := ownsRow_chg (ownsRow_chg hT.out.row hcrq (fun _ _ e => e)) hcX (fun _ _ e => e)
                            have hrow2 := ownsRow_chg hrow1 hcx (fun q hq e => by
                              have e : q = wq.heap.size := e
                              have := ((ownsRow_chg hT.out.row hcrq (fun _ _ e => e)).lt q hq).2
                              omega)
                            obtain ⟨g', cap6, w6, hrun, hrow6, hgr, _, _⟩ := append77 (s := ⟨(saidL f).toArray⟩) (p := k) (ownsRow_chg hrow2 ((Chg.refl Nob wrX).alloc (.cells #[.string ⟨(saidL f).toArray⟩, .int .i64 k] 77)) (fun _ _ e => e)) (by rw [World.size_alloc]; omega) (by have := hT.out.le; omega) (heap_alloc_new wrX _)
                            rw [tokCells_snoc] at hrow6
                            have hc6 := grown_chg (hcVn.alloc (.cells #[.string ⟨(saidL f).toArray⟩, .int .i64 k] 77)) (ownsRow_chg hrow2 ((Chg.refl Nob wrX).alloc _) (fun _ _ e => e)) (Nat.le_refl _) hgr
                            have Hrun := Lib.hid hrun
                            have HT6 : Hid (Tk7 s V.heap.size V (k + f.length) (acc ++ [(saidL f, k)]) (.slice (some ⟨g', 0, none⟩) (acc.length + 1) cap6) w6) := ⟨Hn.out, by rw [List.length_append]; have := hT.out.le; simp only [List.length_cons, List.length_nil]; omega, by rw [List.length_append]; exact hrow6⟩
                            have hkf : k + f.length ≤ s.length := by omega
                            have hj8i : ¬ ((8 : Int) < 8) := by omega
                            clear hrun hrow6 hrow1 hrow2 hgr hbx8
                            go_wp2_with (refine wpList_append_known rfl _ _ 69 69 rfl _ _ rfl rfl _ w6 Hrun.out ?_)
                            go_roundw
                            case rel => exact ⟨k + f.length, acc ++ [(saidL f, k)], _, rfl, by go_num, hkf, HT6, hc6⟩
                            case measure => simp [intOf]; omega
          · rename World => wq
            have hcrq := hcj
            have hcq := hc.trans1 hcj
            have hfl := firstL_length (s.drop k)
            rw [← Hf.out, List.length_drop] at hfl
            have hfpos : 0 < f.length := List.length_pos_iff.2 (beq_eq_false_iff_ne.1 hfn)
            have Hn : Hid (toks 0 s = comb (acc ++ [(saidL f, k)]) (toks (k + f.length) (s.drop (k + f.length)))) := (show toks 0 s = comb (acc ++ [(saidL f, k)]) (toks (k + f.length) (s.drop (k + f.length))) by
              have e2 : (y0 :: s.drop (k + 1)).drop f.length = s.drop (k + f.length) := by rw [← Hd.out, List.drop_drop]
              rw [hT.out.eq, Hd.out, toks_word hbl (by rw [← Hd.out]; exact Hf.out.symm) (beq_eq_false_iff_ne.1 hfn), e2]
              cases toks (k + f.length) (s.drop (k + f.length)) with
              | error e => rfl
              | ok l => show Except.ok _ = Except.ok _; rw [List.append_assoc]; rfl)
            obtain ⟨X, hXe, hcX, hbX⟩ : ∃ X, X = wq.alloc (.cells #[.string ⟨f.toArray⟩, .int .i64 (k : Int)] 77) ∧ Chg Nob wq X ∧ X.heap[wq.heap.size]? = some (.cells #[.string ⟨f.toArray⟩, .int .i64 (k : Int)] 77 (0, 0)) := ⟨_, rfl, (Chg.refl _ _).alloc _, heap_alloc_new _ _⟩
            have hzq := hcq.size
            have hzX : X.heap.size = wq.heap.size + 1 := by rw [hXe, World.size_alloc]
            have HzX := Lib.hid hzX
            have HbX := Lib.hid hbX
            have hfsz : (⟨f.toArray⟩ : ByteArray).size = f.length := by show f.toArray.size = _; simp
            clear hbX hzX
            go_wp2_with fail
            all_goals
              rw [← hXe]
              clear hXe
              go_loopw [14] (fun i wr' => ∃ j : Nat, i = .int .i64 (j : Int) ∧ j ≤ 8 ∧ Hid (wr'.heap[wq.heap.size]? = some (.cells #[.string ⟨(saidUp j f).toArray⟩, .int .i64 (k : Int)] 77 (0, 0))) ∧ Chg (At1 wq.heap.size) X wr') (fun i _ => 8 - (intOf i).toNat)
              case atStart => exact ⟨0, rfl, by omega, (show X.heap[wq.heap.size]? = _ by rw [saidUp_zero]; exact HbX.out), Chg.refl _ _⟩
              case round =>
                obtain ⟨j, rfl, hj, hbx, hcx⟩ := hrel
                rename World => wrX
                have hcVx : Chg (At1 wq.heap.size) V _ := (hcq.trans1 hcX).any.trans1 hcx
                obtain ⟨e0, e1, e2, e3⟩ := cell_two hbx.out
                by_cases hj8 : j < 8
                · obtain ⟨y, hy⟩ : ∃ y, fromL[j]? = some y := ⟨_, List.getElem?_eq_getElem (by show j < 8; exact hj8)⟩
                  have hsV := HsV.out
                  have hcf := hcVx.cell' (HcF.out j y hy) (fun e => by have e : w.heap.size + 1 = wq.heap.size := e; omega)
                  have hct := hcVx.cell' (HcT.out j _ (to_said hy)) (fun e => by have e : w.heap.size + 1 + 1 = wq.heap.size := e; omega)
                  have hji : (j : Int) < 8 := by omega
                  have hj0 : (0 : Int) ≤ (j : Int) := by omega
                  cases hyf : (y == f) with
                  | true =>
                    have Hb2 : Hid ((wrX.setCell ⟨wq.heap.size, 0, none⟩ (.string ⟨(saidL y).toArray⟩)).heap[wq.heap.size]? = some (.cells #[.string ⟨(saidUp (j + 1) f).toArray⟩, .int .i64 (k : Int)] 77 (0, 0))) := (show _ = _ by rw [saidUp_yes hy hyf]; exact block_two_set0 hbx.out)
                    have Hc2 := Lib.hid (hcx.setCell (p := ⟨wq.heap.size, 0, none⟩) (fun _ => rfl) (.string ⟨(saidL y).toArray⟩))
                    clear hy
                    go_wp2_with fail
                    go_roundw
                    case rel => exact ⟨j + 1, by go_num, by omega, Hb2, Hc2.out⟩
                    case measure => simp [intOf]; omega
                  | false =>
                    have Hb2 : Hid (wrX.heap[wq.heap.size]? = some (.cells #[.string ⟨(saidUp (j + 1) f).toArray⟩, .int .i64 (k : Int)] 77 (0, 0))) := (show _ = _ by rw [saidUp_no hy hyf]; exact hbx.out)
                    clear hy
                    go_wp2_with fail
                    go_roundw
                    case rel => exact ⟨j + 1, by go_num, by omega, Hb2, hcx⟩
                    case measure => simp [intOf]; omega
                · obtain rfl : j = 8 := by omega
                  have hbx8 := hbx.out
                  rw [saidUp_end] at hbx8 e0
                  have hzX := HzX.out
                  have hcVn : Chg Nob V wrX := hcVx.mono (fun i hi e => by have e : i = wq.heap.size := e; omega)
                  have hzx := hcx.size
                  have hrow1 := ownsRow_chg (ownsRow_chg hT.out.row hcrq (fun _ _ e => e)) hcX (fun _ _ e => e)
                  have hrow2 := ownsRow_chg hrow1 hcx (fun q hq e => by
                    have e : q = wq.heap.size := e
                    have := ((ownsRow_chg hT.out.row hcrq (fun _ _ e => e)).lt q hq).2
                    omega)
                  obtain ⟨g', cap6, w6, hrun, hrow6, hgr, _, _⟩ := append77 (s := ⟨(saidL f).toArray⟩) (p := k) (ownsRow_chg hrow2 ((Chg.refl Nob wrX).alloc (.cells #[.string ⟨(saidL f).toArray⟩, .int .i64 k] 77)) (fun _ _ e => e)) (by rw [World.size_alloc]; omega) (by have := hT.out.le; omega) (heap_alloc_new wrX _)
                  rw [tokCells_snoc] at hrow6
                  have hc6 := grown_chg (hcVn.alloc (.cells #[.string ⟨(saidL f).toArray⟩, .int .i64 k] 77)) (ownsRow_chg hrow2 ((Chg.refl Nob wrX).alloc _) (fun _ _ e => e)) (Nat.le_refl _) hgr
                  have Hrun := Lib.hid hrun
                  have HT6 : Hid (Tk7 s V.heap.size V (k + f.length) (acc ++ [(saidL f, k)]) (.slice (some ⟨g', 0, none⟩) (acc.length + 1) cap6) w6) := ⟨Hn.out, by rw [List.length_append]; have := hT.out.le; simp only [List.length_cons, List.length_nil]; omega, by rw [List.length_append]; exact hrow6⟩
                  have hkf : k + f.length ≤ s.length := by omega
                  have hj8i : ¬ ((8 : Int) < 8) := by omega
                  clear hrun hrow6 hrow1 hrow2 hgr hbx8
                  go_wp2_with (refine wpList_append_known rfl _ _ 69 69 rfl _ _ rfl rfl _ w6 Hrun.out ?_)
                  go_roundw
                  case rel => exact ⟨k + f.length, acc ++ [(saidL f, k)], _, rfl, by go_num, hkf, HT6, hc6⟩
                  case measure => simp [intOf]; omega
    · obtain rfl : k = s.length := by omega
      have Hend : Hid (RTokPost s w (.returned (.tuple #[sl, .int .i64 (-1)])) wr) := ⟨hcV.trans1 hc, .inl ⟨acc, sl, by rw [hT.out.eq, List.drop_length, toks_nil]; show Except.ok _ = _; rw [List.append_nil], rfl, ownsRow_mono hT.out.row (by have := hcV.size; omega)⟩⟩
      go_wp2
      go_ret2
      exact Hend.out
end Go.Proofs.Ytkgfdgfhpdhhaaa
