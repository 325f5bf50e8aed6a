/- A slice of bytes that came in. Condition: its reading. -/
import Derived.Test.YtickdmalkmgkiaaPinv
import Derived.Test.YtickdmalkmgkiaaOpen
import Derived.ChangeSlices
namespace Go.Proofs.Ytickdmalkmgkiaa
open Go.RowKit Go.ChangeShapes Go.WideShapes

theorem Bytes.of_list {w : World} {a : Addr} {len cap : Nat} {zs : List Int} (hl : len ≤ cap) (hm : cap ≤ maxLen) (hz : zs.length = cap) (hc : ∀ i, i < zs.length → w.cell? (a.add i) = some (.int .u8 (zs.getD i 0))) (hw : ∀ n ∈ zs, (Lit.int .u8 n).wf = true) :
    ∃ l, Bytes w (.slice (some a) len cap) l := by
  have hlen : ((zs.take len).map fun n => UInt8.ofNat n.toNat).length = len := by rw [List.length_map, List.length_take]; omega
  refine ⟨(zs.take len).map fun n => UInt8.ofNat n.toNat, by unfold maxLen at hm; omega, .inr ⟨a, cap, by rw [hlen], by omega, fun j u hj => ?_⟩⟩
  rw [List.map_map, List.getElem?_map] at hj
  obtain ⟨n, hn, rfl⟩ := Option.map_eq_some_iff.1 hj
  have hn2 : zs[j]? = some n := by
    rw [List.getElem?_take] at hn
    split at hn
    · exact hn
    · simp at hn
  have hlt := (List.getElem?_eq_some_iff.1 hn2).1
  rw [hc j hlt, List.getD_eq_getElem?_getD, hn2]
  have hwf := hw n (List.mem_of_getElem? hn2)
  simp [Lit.wf, IntKind.min, IntKind.max, IntKind.signed, IntKind.bits] at hwf
  show some (Value.int .u8 n) = some (bv (UInt8.ofNat n.toNat))
  rw [bv_mod]
  congr 2
  omega

set_option maxRecDepth 100000 in
theorem open_bytes {H : Type} {enc : TypeId × Value → H} {W : World} {b0 : Nat} {v : Value} {d : DataW H} {p : List MemPlace} (hv : Value.okWide Try.prog W .any b0 26 v) (h : DataW.Trod enc Try.prog W 0 (fun _ => true) true 26 v d p) : ∃ l, Bytes W v l := by
  obtain ⟨ao, len, cap, rfl⟩ := okWide_slice Try.underlying26 hv
  obtain ⟨fuel, hf⟩ := h
  rcases open_ints Try.underlying26 Try.underlying5 (by kernel_rfl) hf with ⟨hcs, _⟩ | ⟨a, len', cap', zs, hcs, _, hl, hm, hz, _, hc, hw⟩
  · simp [Value.cells] at hcs
    obtain ⟨rfl, rfl, rfl⟩ := hcs
    exact ⟨[], by simp, .inl ⟨rfl, rfl⟩⟩
  · simp [Value.cells] at hcs
    obtain ⟨rfl, rfl, rfl⟩ := hcs
    simp at hz
    exact Bytes.of_list hl hm hz hc hw
end Go.Proofs.Ytickdmalkmgkiaa
