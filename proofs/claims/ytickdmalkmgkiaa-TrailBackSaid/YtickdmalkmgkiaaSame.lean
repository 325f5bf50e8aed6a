/- sextantref23.Same: are two trails the same? Condition: both lie in the world. -/
import Derived.Test.YtickdmalkmgkiaaValid
import Derived.Test.YtickdmalkmgkiaaRnum
import Derived.Laws.StructEq
import Derived.ChangeKeysEq
import Derived.BigQuiet
namespace Go.Proofs.Ytickdmalkmgkiaa
open Go.ChangeShapes Go.WideShapes Go.ChangeAt Go.RowKit

theorem fields83 : (Try.prog.fieldsOf 83).toList.map (fun f => (f.name, f.type, f.offset)) = [("Proc", 3, 0), ("Edge", 3, 1), ("With", 3, 2), ("WithEdge", 3, 3)] := by kernel_rfl

set_option maxRecDepth 100000 in
theorem neq83 (w : World) (xa xb xc xd ya yb yc yd : Int) :
    (binOp .neq 83 (.agg #[.int .i64 xa, .int .i64 xb, .int .i64 xc, .int .i64 xd]) (.agg #[.int .i64 ya, .int .i64 yb, .int .i64 yc, .int .i64 yd])).run Try.prog w = .ok (.bool (!decide ((xa, xb, xc, xd) = (ya, yb, yc, yd)))) w := by
  have hf := fields83
  rw [run_neq_struct, show (10000 : Nat) = 9998 + 1 + 1 from rfl, run_equalIn_agg w 9999 83 _ _ (by kernel_rfl) (by kernel_rfl)]
  generalize (Try.prog.fieldsOf 83).toList = fs at hf
  rcases fs with _ | ⟨f0, _ | ⟨f1, _ | ⟨f2, _ | ⟨f3, _ | ⟨f4, fs⟩⟩⟩⟩⟩
  case nil => simp at hf
  case cons.nil => simp at hf
  case cons.cons.nil => simp at hf
  case cons.cons.cons.nil => simp at hf
  case cons.cons.cons.cons.cons => simp at hf
  case cons.cons.cons.cons.nil =>
    simp only [List.map_cons, List.map_nil, List.cons.injEq, Prod.mk.injEq, and_true] at hf
    obtain ⟨⟨n0, t0, o0⟩, ⟨n1, t1, o1⟩, ⟨n2, t2, o2⟩, ⟨n3, t3, o3⟩⟩ := hf
    have hp : ∀ (a b c d : Int) (w : World) (j : Nat) (v : Value), (#[Value.int .i64 a, .int .i64 b, .int .i64 c, .int .i64 d] : Array Value)[j]? = some v → (part 3 #[Value.int .i64 a, .int .i64 b, .int .i64 c, .int .i64 d] j).run Try.prog w = .ok v w := by
      intro a b c d w j v hj
      exact run_part_plain _ (by kernel_rfl) hj
    have he : ∀ (x y : Int) (w : World), (Op.equalIn 9999 3 (.int .i64 x) (.int .i64 y)).run Try.prog w = .ok (x == y) w := fun x y w => run_equalIn_int w 9998 3 .i64 .i64 x y Try.underlying3
    have q0 := fun a b c d w => hp a b c d w 0 _ rfl
    have q1 := fun a b c d w => hp a b c d w 1 _ rfl
    have q2 := fun a b c d w => hp a b c d w 2 _ rfl
    have q3 := fun a b c d w => hp a b c d w 3 _ rfl
    simp only [Op.eqFields, n0, n1, n2, n3, t0, t1, t2, t3, o0, o1, o2, o3]
    by_cases e0 : xa = ya
    · by_cases e1 : xb = yb
      · by_cases e2 : xc = yc
        · by_cases e3 : xd = yd
          · simp [Sem.run_bind, Sem.run_ite, q0, q1, q2, q3, he, e0, e1, e2, e3]
          · simp [Sem.run_bind, Sem.run_ite, q0, q1, q2, q3, he, e0, e1, e2, e3]
        · simp [Sem.run_bind, Sem.run_ite, q0, q1, q2, q3, he, e0, e1, e2]
      · simp [Sem.run_bind, Sem.run_ite, q0, q1, q2, q3, he, e0, e1]
    · simp [Sem.run_bind, Sem.run_ite, q0, q1, q2, q3, he, e0]

theorem guard83 (x y : Operand) (xs ys : Array Value) (w : World) : (eqGuard .neq 83 x y (.agg xs) (.agg ys)).run Try.prog w = .ok () w := run_eqGuard_agg w .neq 83 x y xs ys (by kernel_rfl)

def sameT (c : Int) (L : List Step) (c' : Int) (L' : List Step) : Bool := decide (c = c') && decide (L = L')
def SameRel (w1 : World) (L L' : List Step) (i : Value) (wr : World) : Prop :=
  ∃ k : Nat, i = .int .i64 k ∧ Drw w1 wr ∧ k ≤ L.length ∧ ∀ j, j < k → L[j]? = L'[j]?

set_option maxRecDepth 100000 in
set_option maxHeartbeats 4000000 in
theorem same_any (ao ao' : Option Addr) (cap cap' : Nat) (c c' : Int) (L L' : List Step) (w : World) (ht : IsTrail w ao L) (ht' : IsTrail w ao' L') :
    Calls Try.prog 18 #[.agg #[.slice ao L.length cap, .int .i64 c], .agg #[.slice ao' L'.length cap', .int .i64 c']] w fun e w' => e = .returned (.bool (sameT c L c' L')) ∧ Chg Nob w w' := by
  have hlen := ht.1
  have hlen' := ht'.1
  have Ht := Lib.hid ht
  have Ht' := Lib.hid ht'
  clear ht ht'
  go_enter Try.func18, Try.ntmps18
  cases h1 : decide (c = c')
  · have hne : (c == c') = false := by rw [beq_eq_false_iff_ne]; exact of_decide_eq_false h1
    have hs : sameT c L c' L' = false := by unfold sameT; rw [h1]; rfl
    go_wp2_with fail
    go_ret
    exact ⟨by first | rfl | (rw [hs]; rfl) | exact congrArg (fun q => Ending.returned (.bool q)) hs.symm, ((Chg.refl _ _).alloc _).alloc _⟩
  · obtain rfl := of_decide_eq_true h1
    by_cases h2 : L.length = L'.length
    · have hne : ((L.length : Int) == (L'.length : Int)) = true := by rw [beq_iff_eq]; omega
      go_wp2_with fail
      have hcW : Chg Nob w ((w.alloc (Obj.cells #[Value.slice ao L'.length cap, Value.int IntKind.i64 c] 24)).alloc (Obj.cells #[Value.slice ao' L'.length cap', Value.int IntKind.i64 c] 24)) := ((Chg.refl _ _).alloc _).alloc _
      have x0 : ((w.alloc (Obj.cells #[Value.slice ao L'.length cap, Value.int IntKind.i64 c] 24)).alloc (Obj.cells #[Value.slice ao' L'.length cap', Value.int IntKind.i64 c] 24)).cell? ⟨w.heap.size, 0, none⟩ = some (.slice ao L'.length cap) := ((Chg.refl Nob _).alloc _).cell' (cell_two (heap_alloc_new w _)).1 (fun e => e)
      have x1 : ((w.alloc (Obj.cells #[Value.slice ao L'.length cap, Value.int IntKind.i64 c] 24)).alloc (Obj.cells #[Value.slice ao' L'.length cap', Value.int IntKind.i64 c] 24)).cell? ⟨w.heap.size + 1, 0, none⟩ = some (.slice ao' L'.length cap') := by
        rw [show w.heap.size + 1 = (w.alloc (Obj.cells #[Value.slice ao L'.length cap, Value.int IntKind.i64 c] 24)).heap.size by simp]
        exact (cell_two (heap_alloc_new _ _)).1
      generalize (w.alloc (Obj.cells #[Value.slice ao L'.length cap, Value.int IntKind.i64 c] 24)).alloc (Obj.cells #[Value.slice ao' L'.length cap', Value.int IntKind.i64 c] 24) = W1 at *
      have H2 := Lib.hid h2
      clear hne h2 h1
      go_loopw [5] (fun i wr => SameRel W1 L L' i wr) (fun i _ => L.length - (intOf i).toNat)
      case atStart => exact ⟨0, rfl, Drw.mk W1 0, by omega, fun j h => by omega⟩
      case round =>
        obtain ⟨k, rfl, ⟨q, rfl⟩, hk, hall⟩ := hrel
        have Hall := Lib.hid hall
        clear hall
        by_cases hlt : k < L'.length
        · obtain ⟨x, hx⟩ : ∃ x, L[k]? = some x := ⟨_, List.getElem?_eq_getElem (by have := H2.out; omega)⟩
          obtain ⟨y, hy⟩ : ∃ y, L'[k]? = some y := ⟨_, List.getElem?_eq_getElem hlt⟩
          obtain ⟨b, o, hao, _, c0, c1, c2, c3⟩ := ((Ht.out.chg hcW).2 k x hx)
          obtain ⟨b', o', hao', _, c0', c1', c2', c3'⟩ := ((Ht'.out.chg hcW).2 k y hy)
          subst hao hao'
          have Hx := Lib.hid (And.intro hx hy)
          clear hx hy
          obtain ⟨xa, xb, xc, xd⟩ := x
          obtain ⟨ya, yb, yc, yd⟩ := y
          simp only at c0 c1 c2 c3 c0' c1' c2' c3'
          have hki : (k : Int) < (L'.length : Int) := by omega
          have hk0 : (0 : Int) ≤ (k : Int) := by omega
          go_wp2_with fail
          have hnq := fun w => neq83 w xa xb xc xd ya yb yc yd
          have hgq := fun x y w => guard83 x y #[.int .i64 xa, .int .i64 xb, .int .i64 xc, .int .i64 xd] #[.int .i64 ya, .int .i64 yb, .int .i64 yc, .int .i64 yd] w
          cases hd : decide ((xa, xb, xc, xd) = (ya, yb, yc, yd))
          · have hs : sameT c L c L' = false := by
              unfold sameT
              rw [decide_eq_false (p := L = L') (fun e => of_decide_eq_false hd (by
                have h := Hx.out
                rw [e, h.2] at h
                exact (Option.some.inj h.1).symm))]
              simp
            simp only [hd] at hnq
            clear hd
            go_quiet (fail)
            go_wp2_with fail
            go_ret
            exact ⟨by first | rfl | (rw [hs]; rfl) | exact congrArg (fun q => Ending.returned (.bool q)) hs.symm, (hcW.drewN _).drewN _⟩
          · have he := of_decide_eq_true hd
            simp only [hd] at hnq
            clear hd
            go_quiet (fail)
            go_wp2_with fail
            go_roundw
            case rel => exact ⟨k + 1, by go_num, Drw.mk W1 _, by have := H2.out; omega, fun j hj => by
              by_cases hjk : j < k
              · exact Hall.out j hjk
              · obtain rfl : j = k := by omega
                rw [Hx.out.1, Hx.out.2, he]⟩
            case measure => simp [intOf]; have := H2.out; omega
        · obtain rfl : k = L'.length := by have := H2.out; omega
          have he : L = L' := by
            refine List.ext_getElem? (fun j => ?_)
            by_cases hj : j < L'.length
            · exact Hall.out j hj
            · rw [List.getElem?_eq_none (by have := H2.out; omega), List.getElem?_eq_none (by omega)]
          have hs : sameT c L c L' = true := by unfold sameT; simp [he]
          go_wp2_with fail
          go_ret
          exact ⟨by first | rfl | (rw [hs]; rfl) | exact congrArg (fun q => Ending.returned (.bool q)) hs.symm, hcW.drewN _⟩
    · have hne : ((L.length : Int) == (L'.length : Int)) = false := by rw [beq_eq_false_iff_ne]; omega
      have hs : sameT c L c L' = false := by unfold sameT; rw [decide_eq_false (p := L = L') (fun e => h2 (by rw [e]))]; simp
      go_wp2_with fail
      go_ret
      exact ⟨by first | rfl | (rw [hs]; rfl) | exact congrArg (fun q => Ending.returned (.bool q)) hs.symm, ((Chg.refl _ _).alloc _).alloc _⟩

end Go.Proofs.Ytickdmalkmgkiaa
