/- The law's own wakefulness. No condition. -/
import Derived.Test.YtickdmalkmgkiaaRwrite
namespace Go.Proofs.Ytickdmalkmgkiaa
open Go.ChangeShapes Go.WideShapes Go.ChangeAt Go.RowKit

theorem bytes_conv {B : Nat} {w : World} {v : Value} {l : List UInt8} (h : BytesAt B w v l) : (convert 26 9 v).run Try.prog w = .ok (.string ⟨l.toArray⟩) w := by
  obtain ⟨bk, cp, rfl, _, _, _, hc⟩ := h
  refine run_convert_bytes_back (P := Try.prog) w 26 9 5 _ cp l Try.underlying26 Try.underlying5 Try.underlying9 (fun j hj => ?_)
  rw [Go.WideShapes.add_plain, Nat.zero_add]
  exact hc j _ (by rw [List.getElem?_map, List.getElem?_eq_getElem hj]; rfl)
theorem tl_awake : tl 0 [(1, 2, -1, -1)] = [83, 88, 84, 49, 1, 1, 2, 3, 0, 0] := by
  simp [tl, magic, stepb, numb_lt]

set_option maxRecDepth 100000 in
set_option maxHeartbeats 1000000 in
theorem awake_any (w : World) : Calls Try.prog 15 #[] w fun e w' => e = .returned (.bool true) ∧ Chg Nob w w' := by
  have hm : mayBe 0 [(1, 2, -1, -1)] = true := by decide
  have ht : IsTrail (w.alloc (Obj.cells #[Value.int IntKind.i64 1, Value.int IntKind.i64 2, Value.int IntKind.i64 (-1), Value.int IntKind.i64 (-1)] 83)) (some ⟨w.heap.size, 0, none⟩) [(1, 2, -1, -1)] := by
    refine ⟨by simp, fun i x hx => ?_⟩
    match i, hx with
    | 0, hx =>
      simp at hx; subst hx
      exact ⟨w.heap.size, 0, rfl, by simp, cell_row (heap_alloc_new w _) _ rfl, cell_row (heap_alloc_new w _) _ rfl, cell_row (heap_alloc_new w _) _ rfl, cell_row (heap_alloc_new w _) _ rfl⟩
  have h1 : Calls Try.prog 16 #[.agg #[.slice (some ⟨w.heap.size, 0, none⟩) 1 1, .int .i64 0]] _ _ := Write_any (some ⟨w.heap.size, 0, none⟩) 1 0 [(1, 2, -1, -1)] _ ht
  go_enter Try.func15, Try.ntmps15
  go_wp2_with fail
  (with_reducible refine h1.mono ?_)
  clear h1
  rintro e w2 ⟨hc, ⟨hm2, _⟩ | ⟨_, v, rfl, hb⟩⟩
  · rw [hm] at hm2; cases hm2
  · have hcv := bytes_conv hb
    rw [tl_awake] at hcv
    have hcc : Chg Nob w w2 := ((Chg.refl Nob w).alloc _).trans1 hc
    clear hb
    go_wp2_with fail

    go_ret
    exact ⟨rfl, hcc⟩

end Go.Proofs.Ytickdmalkmgkiaa
