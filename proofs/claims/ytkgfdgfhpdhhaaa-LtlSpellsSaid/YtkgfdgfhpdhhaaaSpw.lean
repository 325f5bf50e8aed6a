/- Spelling a text step by step; a list of numbers that came in. Conditions: as each theorem states. -/
import Derived.Test.YtkgfdgfhpdhhaaaRespell
import Derived.Test.YtkgfdgfhpdhhaaaTi
import Derived.Test.YtkgfdgfhpdhhaaaPickl
import Derived.ChangeSlices
namespace Go.Proofs.Ytkgfdgfhpdhhaaa
open Go.ChangeShapes Go.WideShapes Go.RowKit

/-- What has been put for a text's beginning. -/
def OutS (s : List UInt8) (i : Nat) (o : List UInt8) : Prop := ∀ o', Sp (s.drop i) o' → Sp s (o ++ o')
theorem out_start (s : List UInt8) : OutS s 0 [] := fun _ h => h
theorem out_end {s o : List UInt8} (h : OutS s s.length o) : Sp s o := by
  have := h [] (by rw [List.drop_length]; exact .nil)
  rwa [List.append_nil] at this
theorem out_sign {s o w : List UInt8} {i : Nat} (h : OutS s i o) (hw : w ∈ spS) (hp : w <+: s.drop i) : OutS s (i + 2) (o ++ w) ∧ OutS s (i + 2) (o ++ spW w) := by
  obtain ⟨r, hr⟩ := hp
  have e : s.drop (i + 2) = r := by
    rw [← List.drop_drop, ← hr, ← spS_len hw, List.drop_left]
  refine ⟨fun o' ho => ?_, fun o' ho => ?_⟩
  · rw [e] at ho
    rw [List.append_assoc]
    refine h _ ?_
    rw [← hr]
    exact .sign hw ho
  · rw [e] at ho
    rw [List.append_assoc]
    refine h _ ?_
    rw [← hr]
    exact .word hw ho
theorem out_blank {s o : List UInt8} {i : Nat} (h : OutS s i o) (hc : s[i]? = some 32) : OutS s (i + 1) (o ++ [9, 32, 10]) := fun o' ho => by
  rw [List.append_assoc]
  refine h _ ?_
  rw [drop_at hc]
  exact .blank ho
theorem out_same {s o : List UInt8} {i : Nat} {c : UInt8} (h : OutS s i o) (hc : s[i]? = some c) (hn : ∀ w ∈ spS, ¬ w <+: s.drop i) : OutS s (i + 1) (o ++ [c]) := fun o' ho => by
  rw [List.append_assoc]
  refine h _ ?_
  rw [drop_at hc] at hn ⊢
  exact .same hn ho
theorem pre_take {s w : List UInt8} {i : Nat} (hw : w ∈ spS) : w <+: s.drop i ↔ (s.drop i).take 2 = w := by
  rw [List.prefix_iff_eq_take, spS_len hw]
  exact eq_comm
theorem pre_le {s w : List UInt8} {i : Nat} (hw : w ∈ spS) (h : w <+: s.drop i) : i + 2 ≤ s.length := by
  have := h.length_le
  rw [spS_len hw, List.length_drop] at this
  omega
theorem no_again {s w y : List UInt8} {i m k : Nat} (hm : m < k) (hw : spS[m]? = some w) (hy : spS[k]? = some y) (hp : w <+: s.drop i) : ((s.drop (i + 1)).take 2 == y) = false := by
  rw [beq_eq_false_iff_ne]
  intro e
  obtain ⟨r, hr⟩ := hp
  have e1 : s.drop (i + 1) = w.drop 1 ++ r := by
    have hl := spS_len (List.mem_of_getElem? hw)
    rw [← List.drop_drop, ← hr, List.drop_append_of_le_length (by omega)]
  rw [e1] at e
  have hk : k < 4 := (List.getElem?_eq_some_iff.1 hy).1
  have hmk : (m = 0 ∧ k = 1) ∨ (m = 0 ∧ k = 2) ∨ (m = 0 ∧ k = 3) ∨ (m = 1 ∧ k = 2) ∨ (m = 1 ∧ k = 3) ∨ (m = 2 ∧ k = 3) := by omega
  rcases hmk with ⟨rfl, rfl⟩ | ⟨rfl, rfl⟩ | ⟨rfl, rfl⟩ | ⟨rfl, rfl⟩ | ⟨rfl, rfl⟩ | ⟨rfl, rfl⟩ <;> (simp [spS] at hw hy; subst hw hy; simp at e)
/-- The second byte of a sign is no blank. -/
theorem sign_second {s w : List UInt8} {i : Nat} (hw : w ∈ spS) (hp : w <+: s.drop i) {c : UInt8} (hc : s[i + 1]? = some c) : c ≠ 32 := by
  obtain ⟨r, hr⟩ := hp
  obtain ⟨a, d, rfl, _, hd⟩ := spS_head hw
  have e : (s.drop i)[1]? = some c := by rw [List.getElem?_drop]; exact hc
  rw [← hr] at e
  have e : d = c := by simpa using e
  subst e
  rcases hd with rfl | rfl | rfl | rfl <;> decide
/-- A list of numbers that came in. -/
def IsInts (w : World) (v : Value) (len : Nat) : Prop := ∃ ao cap, v = .slice ao len cap ∧ len ≤ 9223372036854775807 ∧ ∀ j, j < len → ∃ a z, ao = some a ∧ w.cell? (a.add j) = some (.int .i64 z) ∧ -9223372036854775808 ≤ z ∧ z < 9223372036854775808
set_option maxRecDepth 100000 in
theorem open_numbers {H : Type} {enc : TypeId × Value → H} {W : World} {b0 : Nat} {v : Value} {d : DataW H} {p : List MemPlace} (hv : Value.okWide Try.prog W .any b0 58 v) (h : DataW.Trod enc Try.prog W 0 (fun _ => true) true 58 v d p) : ∃ l, IsInts W v l := by
  obtain ⟨ao, len, cap, rfl⟩ := okWide_slice Try.underlying58 hv
  obtain ⟨fuel, hf⟩ := h
  rcases open_ints Try.underlying58 Try.underlying3 (by kernel_rfl) hf with ⟨hcs, _⟩ | ⟨a, len', cap', zs, hcs, _, hl, hm, hz, _, hc, hw⟩
  · simp [Value.cells] at hcs
    obtain ⟨rfl, rfl, rfl⟩ := hcs
    exact ⟨0, none, 0, rfl, by omega, fun j hj => by omega⟩
  · simp [Value.cells] at hcs
    obtain ⟨rfl, rfl, rfl⟩ := hcs
    simp at hz
    refine ⟨len, some a, cap, rfl, by unfold maxLen at hm; omega, fun j hj => ?_⟩
    have hj2 : j < zs.length := by omega
    have hcell := hc j hj2
    refine ⟨a, _, rfl, hcell, ?_⟩
    have hwf := bounds_i64 (hw (zs.getD j 0) (by rw [List.getD_eq_getElem?_getD, List.getElem?_eq_getElem hj2]; exact List.getElem_mem hj2))
    omega
end Go.Proofs.Ytkgfdgfhpdhhaaa
