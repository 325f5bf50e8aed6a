/- Parts of the walks and of the plain theory: Plain lemmas on worlds that keep what lies outside a set of blocks, on rows that a call owns. Conditions: none. -/
import Derived.Test.YtkgfdgfhpdhhaaaGreatRows
import Derived.WalkKit
import Derived.WalkSpells
import Derived.WalkLawsBesides
import Derived.Lib.Hide
import Derived.Lib.AppendStr
import Derived.BigQuiet
import Derived.Lib.IndexBytes
import Derived.ProofKit
import Derived.OpenShut
import Derived.Deep.Slices
import Derived.Deep.Fields
import Derived.ChangeSame
import Derived.SizedLaws
import Derived.RangeFuncNested
import Derived.RangeFuncBound
import Derived.RangeFuncCalls
import Derived.RangeFuncLeaves
import Derived.Shelf.Abstract
import Derived.OwnWalkIn
import Derived.TacticsInMore
import Derived.LoopNIn
import Derived.LoopIn
namespace Go.Proofs.YtkgfdgfhpdhhaaaGreat
open Go.ChangeShapes Go.WideShapes Go.RowKit
structure Chg (S : Nat → Prop) (w w' : World) : Prop where
  os : w'.os = w.os
  tape : w'.tape = w.tape
  output : w'.output = w.output
  size : w.heap.size ≤ w'.heap.size
  block : ∀ k, k < w.heap.size → ¬ S k → w'.heap[k]? = w.heap[k]?
def Nob : Nat → Prop := fun _ => False
theorem Chg.refl (S : Nat → Prop) (w : World) : Chg S w w := ⟨rfl, rfl, rfl, Nat.le_refl _, fun _ _ _ => rfl⟩
theorem Chg.trans {S S' : Nat → Prop} {a b c : World} (h : Chg S a b) (k : Chg S' b c) (hs : ∀ i, i < a.heap.size → S' i → S i) : Chg S a c :=
  ⟨k.os.trans h.os, k.tape.trans h.tape, k.output.trans h.output, Nat.le_trans h.size k.size, fun i hi hn => (k.block i (Nat.lt_of_lt_of_le hi h.size) (fun e => hn (hs i hi e))).trans (h.block i hi hn)⟩
theorem Chg.trans1 {S : Nat → Prop} {a b c : World} (h : Chg S a b) (k : Chg S b c) : Chg S a c := h.trans k (fun _ _ e => e)
theorem Chg.mono {S S' : Nat → Prop} {w w' : World} (h : Chg S w w') (hs : ∀ i, i < w.heap.size → S i → S' i) : Chg S' w w' :=
  ⟨h.os, h.tape, h.output, h.size, fun i hi hn => h.block i hi (fun e => hn (hs i hi e))⟩
theorem Chg.any {S : Nat → Prop} {w w' : World} (h : Chg Nob w w') : Chg S w w' := h.mono (fun _ _ e => e.elim)
theorem Chg.alloc {S : Nat → Prop} {a w : World} (h : Chg S a w) (o : Obj) : Chg S a (w.alloc o) :=
  h.trans (S' := fun _ => False) ⟨rfl, rfl, rfl, by simp, fun k hk _ => Below.heap_alloc _ _ _ hk⟩ (fun _ _ e => e.elim)
theorem Chg.drew {S : Nat → Prop} {a w : World} (h : Chg S a w) : Chg S a w.drew := ⟨h.os, h.tape, h.output, h.size, h.block⟩
theorem Chg.drewN {S : Nat → Prop} {a w : World} (h : Chg S a w) (n : Nat) : Chg S a (w.drewN n) := ⟨h.os, h.tape, h.output, h.size, h.block⟩
theorem Chg.setCell {S : Nat → Prop} {a w : World} (h : Chg S a w) {p : Addr} (hp : p.block < a.heap.size → S p.block) (u : Value) : Chg S a (w.setCell p u) :=
  h.trans (S' := fun k => k = p.block) ⟨rfl, rfl, rfl, by simp [World.setCell], fun k _ hn => Below.heap_setCell _ _ _ _ hn⟩ (fun i hi e => by subst e; exact hp hi)
theorem Chg.grown {S : Nat → Prop} {a w w' : World} {row : Option Nat} (h : Chg S a w) (hg : w.grownBy w' row) (hr : ∀ k, row = some k → k < a.heap.size → S k) : Chg S a w' :=
  h.trans (S' := fun k => row = some k) ⟨hg.os, hg.tape, hg.output, hg.size, fun k hk hn => hg.block k hk (fun e => hn e.symm)⟩ (fun i hi e => hr i e hi)
theorem Chg.below {S : Nat → Prop} {B : Nat} {w w' : World} (h : Chg S w w') (hB : B ≤ w.heap.size) (hs : ∀ i, i < w.heap.size → S i → B ≤ i) : Below B w w' :=
  ⟨h.os, h.tape, h.output, h.size, fun k hk => h.block k (by omega) (fun e => by have := hs k (by omega) e; omega)⟩
theorem Chg.of_below {w w' : World} (h : Below w.heap.size w w') : Chg Nob w w' :=
  ⟨h.os, h.tape, h.output, h.size, fun k hk _ => h.block k hk⟩
theorem Chg.toBelow {w w' : World} (h : Chg Nob w w') : Below w.heap.size w w' := h.below (Nat.le_refl _) (fun _ _ e => e.elim)
theorem Chg.at {S : Nat → Prop} {w w' : World} (h : Chg S w w') {k : Nat} {o : Obj} (hk : w.heap[k]? = some o) (hn : ¬ S k) : w'.heap[k]? = some o := by
  rw [h.block k (Array.getElem?_eq_some_iff.1 hk).1 hn]; exact hk
theorem Chg.cell {S : Nat → Prop} {w w' : World} (h : Chg S w w') {a : Addr} (hk : a.block < w.heap.size) (hn : ¬ S a.block) : w'.cell? a = w.cell? a := World.cell?_of_block (h.block a.block hk hn)
theorem Chg.cell' {S : Nat → Prop} {w w' : World} (h : Chg S w w') {a : Addr} {v : Value} (hc : w.cell? a = some v) (hn : ¬ S a.block) : w'.cell? a = some v := by
  rw [h.cell (World.block_lt_of_cell? w a hc) hn]; exact hc
theorem ownsRow_chg {S : Nat → Prop} {w w' : World} {B : Nat} {e : TypeId} {z : Nat} {v : Value} {n : Nat} {xs : List Value} (h : w.ownsRow B e z v n xs) (hc : Chg S w w') (hn : ∀ k, v.ownBlock = some k → ¬ S k) : w'.ownsRow B e z v n xs := by
  refine ⟨h.1, ?_⟩
  rcases h.2 with h2 | ⟨g, cap, cur, rfl, hb, hg, rest⟩
  · exact .inl h2
  · exact .inr ⟨g, cap, cur, rfl, hb, hc.at hg (hn g rfl), rest⟩
theorem ownsRow_some {w : World} {B : Nat} {e : TypeId} {z : Nat} {v : Value} {n : Nat} {xs : List Value} (h : w.ownsRow B e z v n xs) (hn : 0 < n) : ∃ g cap, v = .slice (some ⟨g, 0, none⟩) n cap ∧ ∀ j u, xs[j]? = some u → w.cell? ((⟨g, 0, none⟩ : Addr).add j) = some u := by
  rcases h.2 with ⟨_, h0⟩ | ⟨g, cap, cur, hv, _⟩
  · omega
  · exact ⟨g, cap, hv, h.cells (by rw [hv]; rfl)⟩
theorem ownsRow_shape {w : World} {B : Nat} {e : TypeId} {z : Nat} {v : Value} {n : Nat} {xs : List Value} (h : w.ownsRow B e z v n xs) : ∃ ao c, v = .slice ao n c := by
  rcases h.2 with ⟨h1, h0⟩ | ⟨g, cap, cur, hv, _⟩
  · exact ⟨none, 0, by rw [h1, h0]⟩
  · exact ⟨_, _, hv⟩
theorem ownsRow_mono {w : World} {B B' : Nat} {e : TypeId} {z : Nat} {v : Value} {n : Nat} {xs : List Value} (h : w.ownsRow B e z v n xs) (hB : B' ≤ B) : w.ownsRow B' e z v n xs := by
  refine ⟨h.1, ?_⟩
  rcases h.2 with h2 | ⟨g, cap, cur, hv, hb, rest⟩
  · exact .inl h2
  · exact .inr ⟨g, cap, cur, hv, by omega, rest⟩
theorem ownsRow_setCell_type {w : World} {B : Nat} {e t : TypeId} {z : Nat} {v : Value} {n : Nat} {xs : List Value} (h : w.ownsRow B e z v n xs) {b o : Nat} {cs : Array Value} {m : Nat × Nat} (hb : w.heap[b]? = some (.cells cs t m)) (hne : e ≠ t) (u : Value) :
    (w.setCell ⟨b, o, none⟩ u).ownsRow B e z v n xs := by
  refine ⟨h.1, ?_⟩
  rcases h.2 with h2 | ⟨g, cap, cur, rfl, hbg, hg, rest⟩
  · exact .inl h2
  · refine .inr ⟨g, cap, cur, rfl, hbg, ?_, rest⟩
    rw [Below.heap_setCell _ _ _ _ (by intro e1; have e2 : g = b := e1; rw [e2, hb] at hg; simp at hg; exact hne hg.2.1.symm)]
    exact hg
theorem ownsRow_ne_type {w : World} {B : Nat} {e t : TypeId} {z : Nat} {v : Value} {n : Nat} {xs : List Value} (hown : w.ownsRow B e z v n xs) {b : Nat} {cs : Array Value} {m : Nat × Nat} (hb : w.heap[b]? = some (.cells cs t m)) (hne : e ≠ t) :
    ∀ k, v.ownBlock = some k → B ≤ k ∧ k ≠ b := by
  intro k hk
  refine ⟨(hown.lt k hk).1, fun e1 => ?_⟩
  rcases hown.2 with ⟨h2, _⟩ | ⟨g', cap', cur', h2, _, hg', _⟩
  · rw [h2] at hk; simp [Value.ownBlock] at hk
  · rw [h2] at hk; simp [Value.ownBlock] at hk; rw [hk, e1, hb] at hg'; simp at hg'; exact hne hg'.2.1.symm
theorem cell_two {w : World} {b : Nat} {x y : Value} {t : TypeId} (h : w.heap[b]? = some (.cells #[x, y] t (0, 0))) : w.cell? ⟨b, 0, none⟩ = some x ∧ w.cell? ⟨b, 1, none⟩ = some y ∧ w.frozen? ⟨b, 0, none⟩ = false ∧ w.frozen? ⟨b, 1, none⟩ = false := by
  simp [World.cell?, World.frozen?, h]
theorem block_two_set0 {w : World} {b : Nat} {x y u : Value} {t : TypeId} (h : w.heap[b]? = some (.cells #[x, y] t (0, 0))) : (w.setCell ⟨b, 0, none⟩ u).heap[b]? = some (.cells #[u, y] t (0, 0)) := by
  simp [World.setCell, Array.getElem?_modify, h]
theorem block_two_set1 {w : World} {b : Nat} {x y u : Value} {t : TypeId} (h : w.heap[b]? = some (.cells #[x, y] t (0, 0))) : (w.setCell ⟨b, 1, none⟩ u).heap[b]? = some (.cells #[x, u] t (0, 0)) := by
  simp [World.setCell, Array.getElem?_modify, h]
theorem cell_row {w : World} {b t : Nat} {cs : Array Value} {m : Nat × Nat} (h : w.heap[b]? = some (.cells cs t m)) (j : Nat) {v : Value} (hj : cs[j]? = some v) : w.cell? ⟨b, j, none⟩ = some v := by
  unfold World.cell?
  simp [h, hj]
theorem block_one_set {w : World} {b : Nat} {x u : Value} {t : TypeId} (h : w.heap[b]? = some (.cells #[x] t (0, 0))) : (w.setCell ⟨b, 0, none⟩ u).heap[b]? = some (.cells #[u] t (0, 0)) := by
  simp [World.setCell, Array.getElem?_modify, h]
theorem cell_three {w : World} {b : Nat} {x y z : Value} {t : TypeId} (h : w.heap[b]? = some (.cells #[x, y, z] t (0, 0))) : w.cell? ⟨b, 0, none⟩ = some x ∧ w.cell? ⟨b, 1, none⟩ = some y ∧ w.cell? ⟨b, 2, none⟩ = some z ∧ w.frozen? ⟨b, 1, none⟩ = false ∧ w.frozen? ⟨b, 2, none⟩ = false := by
  simp [World.cell?, World.frozen?, h]
def At1 (b : Nat) : Nat → Prop := fun k => k = b
theorem ownsRow_block {w : World} {B : Nat} {e : TypeId} {z : Nat} {v : Value} {n : Nat} {xs : List Value} (h : w.ownsRow B e z v n xs) : ∀ k, v.ownBlock = some k → ∃ cs m, w.heap[k]? = some (.cells cs e m) := by
  intro k hk
  rcases h.2 with ⟨h2, _⟩ | ⟨g', cap', cur', h2, _, hg', _⟩
  · rw [h2] at hk; simp [Value.ownBlock] at hk
  · rw [h2] at hk; simp [Value.ownBlock] at hk; subst hk; exact ⟨_, _, hg'⟩
theorem wpList_append_known {P : Program} {w : World} {ops : Array Oper} {rest : List Oper} {o : Oper} {a : Act} {Q : Exit → Act → World → Prop} (hgd : o.guard = none) (sl x : Operand) (t u : TypeId)
    (ho : o.op = .call { callee := .builtin .append, args := #[sl, x], argTypes := #[t, u] }) (v xv : Value) (hs : a.eval sl = v) (hx : a.eval x = xv) (v' : Value) (w' : World)
    (hr : (Builtin.append_ #[t, u] o.type #[v, xv]).run P w = .ok v' w') (h : wpList P ops Q rest (a.put o.dst v') w') : wpList P ops Q (o :: rest) a w := by
  refine wpList_plain hgd fun K hK => ?_
  unfold Oper.wp execOp
  simp only [ho, resolve, invoke, builtin, Sem.run_bind, Sem.run_pure, Result.andThen_ok, List.map_toArray, List.map_cons, List.map_nil, hs, hx, hr]
  exact hK _ _ h
end Go.Proofs.YtkgfdgfhpdhhaaaGreat
namespace Go.Proofs.YtkgfdgfhpdhhaaaGreat
open Go.ChangeShapes Go.WideShapes Go.RowKit
def letterB (x : UInt8) : Bool := decide ((97 ≤ x.toNat ∧ x.toNat ≤ 122) ∨ (65 ≤ x.toNat ∧ x.toNat ≤ 90) ∨ x.toNat = 95)
def digitB (x : UInt8) : Bool := decide (48 ≤ x.toNat ∧ x.toNat ≤ 57)
def Rets (v : Value) (w : World) (e : Ending) (w' : World) : Prop := e = .returned v ∧ w = w'
set_option maxHeartbeats 1000000 in
theorem letter_any (x : UInt8) (w : World) : Calls Tryz.prog 147 #[.int .u8 x.toNat] w (Rets (.bool (letterB x)) w) := by
  go_enter Tryz.func147, Tryz.ntmps147
  go_wp2
  all_goals go_ret
  all_goals (refine ⟨?_, rfl⟩; show Ending.returned (Value.bool _) = Ending.returned (Value.bool _); refine congrArg (fun q => Ending.returned (Value.bool q)) ?_; rw [Bool.eq_iff_iff]; simp [letterB]; omega)
theorem digit_any (x : UInt8) (w : World) : Calls Tryz.prog 149 #[.int .u8 x.toNat] w (Rets (.bool (digitB x)) w) := by
  go_enter Tryz.func149, Tryz.ntmps149
  go_wp2
  all_goals go_ret
  all_goals (refine ⟨?_, rfl⟩; show Ending.returned (Value.bool _) = Ending.returned (Value.bool _); refine congrArg (fun q => Ending.returned (Value.bool q)) ?_; rw [Bool.eq_iff_iff]; simp [digitB]; omega)
def Texts (w : World) (v : Value) (L : List (List UInt8)) : Prop := ∃ ao cp, v = .slice ao L.length cp ∧ L.length ≤ 9223372036854775807 ∧ ∀ j x, L[j]? = some x → ∃ b o, ao = some ⟨b, o, none⟩ ∧ w.cell? ⟨b, o + j, none⟩ = some (.string ⟨x.toArray⟩)
def indexL (L : List (List UInt8)) (x : List UInt8) : Int := if x ∈ L then (L.idxOf x : Int) else -1
theorem idxOf_first : ∀ {L : List (List UInt8)} {x : List UInt8} (k : Nat), L[k]? = some x → (∀ j y, j < k → L[j]? = some y → y ≠ x) → L.idxOf x = k
  | [], _, _, h, _ => by simp at h
  | y :: L, x, 0, h, _ => by
    obtain rfl : y = x := by simpa using h
    exact List.idxOf_cons_self
  | y :: L, x, k + 1, h, hn => by
    have h0 : y ≠ x := hn 0 y (by omega) rfl
    have ih := idxOf_first (L := L) k (by simpa using h) (fun j z hj hz => hn (j + 1) z (by omega) (by simpa using hz))
    rw [List.idxOf_cons, ih, beq_eq_false_iff_ne.2 h0]
    rfl
set_option maxRecDepth 100000 in
set_option maxHeartbeats 1000000 in
theorem index_any (v : Value) (L : List (List UInt8)) (x : List UInt8) (w : World) (hv : Texts w v L) : Calls Tryz.prog 99 #[v, .string ⟨x.toArray⟩] w (Rets (.int .i64 (indexL L x)) w) := by
  obtain ⟨ao, cp, rfl, hlen, hc⟩ := hv
  have Hc := Lib.hid hc
  clear hc
  go_enter Tryz.func99, Tryz.ntmps99
  go_wp2
  go_loopw [8] (fun i wr => ∃ k : Nat, i = .int .i64 k ∧ k ≤ L.length ∧ Hid (∀ j y, j < k → L[j]? = some y → y ≠ x) ∧ wr = w) (fun i _ => L.length - (intOf i).toNat)
  case atStart => exact ⟨0, rfl, Nat.zero_le _, fun j y h => absurd h (Nat.not_lt_zero j), rfl⟩
  case round =>
    obtain ⟨k, rfl, hk, hno, rfl⟩ := hrel
    by_cases hlt : k < L.length
    · obtain ⟨y, hy⟩ : ∃ y, L[k]? = some y := ⟨_, List.getElem?_eq_getElem hlt⟩
      obtain ⟨b, o, rfl, hcell⟩ := Hc.out k y hy
      have hki : (k : Int) < (L.length : Int) := by omega
      have hk0 : (0 : Int) ≤ (k : Int) := by omega
      have Hy := Lib.hid hy
      clear hy
      cases hxy : (x == y) with
      | true =>
        have hidx : indexL L x = k := by
          have e := beq_iff_eq.1 hxy
          subst e
          have hmem : x ∈ L := List.mem_of_getElem? Hy.out
          unfold indexL
          rw [if_pos hmem, idxOf_first k Hy.out (fun j y hj hy => hno.out j y hj hy)]
        go_wp2
        go_ret
        exact ⟨by rw [hidx]; rfl, rfl⟩
      | false =>
        go_wp2
        go_roundw
        case rel => exact ⟨k + 1, by go_num, by omega, (show ∀ j y, j < k + 1 → L[j]? = some y → y ≠ x from fun j z hj hz => by
          by_cases e : j = k
          · subst e
            rw [Hy.out] at hz
            cases hz
            rw [beq_eq_false_iff_ne] at hxy
            exact fun e => hxy e.symm
          · exact hno.out j z (by omega) hz), trivial⟩
        case measure => simp [intOf]; omega
    · obtain rfl : k = L.length := by omega
      have hidx : indexL L x = -1 := by
        unfold indexL
        rw [if_neg]
        intro hmem
        obtain ⟨j, hj⟩ := List.mem_iff_getElem?.1 hmem
        exact hno.out j x (List.getElem?_eq_some_iff.1 hj).1 hj rfl
      go_wp2
      go_ret
      exact ⟨by rw [hidx]; rfl, rfl⟩
theorem contains_any (v : Value) (L : List (List UInt8)) (x : List UInt8) (w : World) (hv : Texts w v L) : Calls Tryz.prog 95 #[v, .string ⟨x.toArray⟩] w (Rets (.bool (decide (x ∈ L))) w) := by
  have h1 := index_any v L x w hv
  clear hv
  go_enter Tryz.func95, Tryz.ntmps95
  go_wp2_with fail
  (with_reducible refine h1.mono ?_)
  rintro e w' ⟨rfl, rfl⟩
  by_cases hx : x ∈ L
  · have hi : (0 : Int) ≤ indexL L x := by unfold indexL; rw [if_pos hx]; omega
    go_wp2
    go_ret
    exact ⟨by simp [hx], rfl⟩
  · have hi : ¬ (0 : Int) ≤ indexL L x := by unfold indexL; rw [if_neg hx]; omega
    go_wp2
    go_ret
    exact ⟨by simp [hx]; omega, rfl⟩
def wordsL : List (List UInt8) := [[116, 114, 117, 101], [102, 97, 108, 115, 101], [88], [85], [86], [87], [97, 108, 119, 97, 121, 115], [101, 118, 101, 110, 116, 117, 97, 108, 108, 121], [110, 101, 120, 116], [117, 110, 116, 105, 108], [114, 101, 108, 101, 97, 115, 101], [119, 101, 97, 107, 117, 110, 116, 105, 108]]
def isWord (x : List UInt8) : Bool := decide (x ∈ wordsL)
theorem texts_new (w : World) (L : List (List UInt8)) (hl : L.length ≤ 1000) : Texts (w.alloc (.cells (L.map (fun x => Value.string ⟨x.toArray⟩)).toArray 9)) (.slice (some ⟨w.heap.size, 0, none⟩) L.length L.length) L :=
  ⟨_, _, rfl, by omega, fun j x hx => ⟨_, _, rfl, by rw [Nat.zero_add]; exact cell_row (heap_alloc_new w _) j (by simp [hx])⟩⟩
set_option maxRecDepth 100000 in
set_option maxHeartbeats 1000000 in
theorem words_any (x : List UInt8) (w : World) : Calls Tryz.prog 148 #[.string ⟨x.toArray⟩] w fun e w' => e = .returned (.bool (isWord x)) ∧ Chg Nob w w' := by
  have h1 := contains_any _ wordsL x _ (texts_new w wordsL (by decide))
  have hb : decide (x ∈ wordsL) = isWord x := rfl
  rw [hb] at h1
  clear hb
  simp only [wordsL, List.map_cons, List.map_nil, List.length_cons, List.length_nil, Nat.reduceAdd] at h1
  go_enter Tryz.func148, Tryz.ntmps148
  go_wp2_with fail
  (with_reducible refine h1.mono ?_)
  rintro e w' ⟨rfl, rfl⟩
  go_wp2
  go_ret
  exact ⟨rfl, (Chg.refl _ _).alloc _⟩
end Go.Proofs.YtkgfdgfhpdhhaaaGreat
namespace Go.Proofs.YtkgfdgfhpdhhaaaGreat
open Go.ChangeShapes Go.WideShapes Go.RowKit
def kidsOf (k : Int) : Int := if 1 ≤ k ∧ k ≤ 3 then 0 else if 4 ≤ k ∧ k ≤ 7 then 1 else if 8 ≤ k ∧ k ≤ 14 then 2 else -1
theorem kids_any (k : Int) (w : World) : Calls Tryz.prog 137 #[.int .i64 k] w (Rets (.int .i64 (kidsOf k)) w) := by
  go_enter Tryz.func137, Tryz.ntmps137
  go_wp2
  all_goals go_ret
  all_goals (refine ⟨?_, rfl⟩; show Ending.returned (Value.int _ _) = Ending.returned (Value.int _ _); refine congrArg (fun q => Ending.returned (Value.int .i64 q)) ?_; unfold kidsOf; (try simp_all) <;> (repeat' split) <;> omega)
def headB : List UInt8 → Bool
  | [] => false
  | c :: _ => letterB c
def nameB (x : List UInt8) : Bool := decide (x.length ≤ 32) && headB x && x.all (fun c => letterB c || digitB c) && !isWord x
theorem nameB_of {x : List UInt8} (h0 : x.length ≤ 32) (h1 : headB x = true) (h2 : x.all (fun c => letterB c || digitB c) = true) (h3 : isWord x = false) : nameB x = true := by
  unfold nameB
  rw [decide_eq_true h0, h1, h2, h3]
  rfl
theorem all_take {x : List UInt8} {p : UInt8 → Bool} (h : ∀ j c, j < x.length → x[j]? = some c → p c = true) : x.all p = true := by
  rw [List.all_eq_true]
  intro c hc
  obtain ⟨j, hj⟩ := List.mem_iff_getElem?.1 hc
  exact h j c (List.getElem?_eq_some_iff.1 hj).1 hj
theorem not_all_at {x : List UInt8} {p : UInt8 → Bool} {k : Nat} {c : UInt8} (h : x[k]? = some c) (hp : p c = false) : x.all p = false := by
  rw [List.all_eq_false]
  exact ⟨c, List.mem_of_getElem? h, by simp [hp]⟩
set_option maxRecDepth 100000 in
set_option maxHeartbeats 2000000 in
theorem isname_any (x : List UInt8) (w : World) : Calls Tryz.prog 94 #[.string ⟨x.toArray⟩] w fun e w' => e = .returned (.bool (nameB x)) ∧ Chg Nob w w' := by
  have hsz : (⟨x.toArray⟩ : ByteArray).size = x.length := by show x.toArray.size = _; simp
  by_cases hnil : x = []
  · subst hnil
    go_enter Tryz.func94, Tryz.ntmps94
    go_wp2_with fail
    go_ret
    exact ⟨rfl, Chg.refl _ _⟩
  · have hpos : 0 < x.length := List.length_pos_iff.2 hnil
    have hne : (x == []) = false := by rw [beq_eq_false_iff_ne]; exact hnil
    have hnis : x.isEmpty = false := by cases x with
      | nil => exact absurd rfl hnil
      | cons _ _ => rfl
    clear hnil
    by_cases h32 : 32 < x.length
    · have hn : nameB x = false := by unfold nameB; rw [decide_eq_false (by omega)]; simp
      have hl : (32 : Int) < (x.length : Int) := by omega
      have Hn := Lib.hid hn
      clear hn h32
      go_enter Tryz.func94, Tryz.ntmps94
      go_wp2_with fail
      go_ret
      exact ⟨by rw [Hn.out]; rfl, Chg.refl _ _⟩
    · have hl : ¬ (32 : Int) < (x.length : Int) := by omega
      have hlt0 : 0 < (⟨x.toArray⟩ : ByteArray).size := by omega
      obtain ⟨c, hc⟩ : ∃ c, (⟨x.toArray⟩ : ByteArray)[0]'hlt0 = c := ⟨_, rfl⟩
      have hx0 : x[0]? = some c := by
        have h2 := Lib.data_getElem? (⟨x.toArray⟩ : ByteArray) _ hlt0
        rw [hc] at h2
        exact h2
      have hhead : headB x = letterB c := by cases x with
        | nil => simp at hx0
        | cons d l => simp at hx0; subst hx0; rfl
      have hp0 : (0 : Int) < (x.length : Int) := by omega
      have Hh := Lib.hid hhead
      clear hx0 hhead
      go_enter Tryz.func94, Tryz.ntmps94
      go_wp2_with fail
      (with_reducible refine (letter_any c _).mono ?_)
      rintro e w1 ⟨rfl, rfl⟩
      cases hlc : letterB c with
      | false =>
        have hn : nameB x = false := by unfold nameB; rw [Hh.out, hlc]; simp
        have Hn := Lib.hid hn
        clear hn
        go_wp2_with fail
        go_ret
        exact ⟨by rw [Hn.out]; rfl, Chg.refl _ _⟩
      | true =>
        go_wp2_with fail
        (with_reducible refine (words_any x _).mono ?_)
        rintro e w2 ⟨rfl, hc2⟩
        cases hwd : isWord x with
        | true =>
          have hn : nameB x = false := by unfold nameB; rw [hwd]; simp
          have Hn := Lib.hid hn
          clear hn
          go_wp2_with fail
          go_ret
          exact ⟨by rw [Hn.out]; rfl, hc2⟩
        | false =>
          go_wp2_with fail
          go_loopw [23] (fun i wr => ∃ k : Nat, i = .int .i64 k ∧ k ≤ x.length ∧ Hid (∀ j c, j < k → x[j]? = some c → (letterB c || digitB c) = true) ∧ wr = w2) (fun i _ => x.length - (intOf i).toNat)
          case atStart => exact ⟨0, rfl, Nat.zero_le _, fun j y h => absurd h (Nat.not_lt_zero j), rfl⟩
          case round =>
            obtain ⟨k, rfl, hk, hall, rfl⟩ := hrel
            by_cases hlt : k < x.length
            · have hlt2 : k < (⟨x.toArray⟩ : ByteArray).size := by omega
              obtain ⟨y, hy⟩ : ∃ y, (⟨x.toArray⟩ : ByteArray)[k]'hlt2 = y := ⟨_, rfl⟩
              have hxk : x[k]? = some y := by
                have h2 := Lib.data_getElem? (⟨x.toArray⟩ : ByteArray) _ hlt2
                rw [hy] at h2
                exact h2
              have hki : (k : Int) < (x.length : Int) := by omega
              have hk0 : (0 : Int) ≤ (k : Int) := by omega
              have Hx := Lib.hid hxk
              clear hxk hc
              go_wp2_with fail
              (with_reducible refine (letter_any y _).mono ?_)
              rintro e w3 ⟨rfl, rfl⟩
              cases hly : letterB y with
              | true =>
                go_wp2_with fail
                go_roundw
                case rel => exact ⟨k + 1, by go_num, by omega, (show ∀ j c, j < k + 1 → x[j]? = some c → (letterB c || digitB c) = true from fun j z hj hz => by
                  by_cases e : j = k
                  · subst e
                    rw [Hx.out] at hz
                    cases hz
                    simp [hly]
                  · exact hall.out j z (by omega) hz), trivial⟩
                case measure => simp [intOf]; omega
              | false =>
                go_wp2_with fail
                (with_reducible refine (digit_any y _).mono ?_)
                rintro e w3 ⟨rfl, rfl⟩
                cases hdy : digitB y with
                | true =>
                  go_wp2_with fail
                  go_roundw
                  case rel => exact ⟨k + 1, by go_num, by omega, (show ∀ j c, j < k + 1 → x[j]? = some c → (letterB c || digitB c) = true from fun j z hj hz => by
                    by_cases e : j = k
                    · subst e
                      rw [Hx.out] at hz
                      cases hz
                      simp [hdy]
                    · exact hall.out j z (by omega) hz), trivial⟩
                  case measure => simp [intOf]; omega
                | false =>
                  have hn : nameB x = false := by unfold nameB; rw [not_all_at Hx.out (by simp [hly, hdy])]; simp
                  have Hn := Lib.hid hn
                  clear hn
                  go_wp2_with fail
                  go_ret
                  exact ⟨by rw [Hn.out]; rfl, hc2⟩
            · obtain rfl : k = x.length := by omega
              have hn : nameB x = true := nameB_of (by omega) (by rw [Hh.out, hlc]) (all_take hall.out) hwd
              have Hn := Lib.hid hn
              clear hn
              go_wp2_with fail
              go_ret
              exact ⟨by rw [Hn.out]; rfl, hc2⟩
end Go.Proofs.YtkgfdgfhpdhhaaaGreat
namespace Go.Proofs.YtkgfdgfhpdhhaaaGreat
open Go.ChangeShapes Go.WideShapes Go.RowKit
end Go.Proofs.YtkgfdgfhpdhhaaaGreat
namespace Go.Proofs.YtkgfdgfhpdhhaaaGreat
open Go.ChangeShapes Go.WideShapes Go.RowKit
inductive T where
  | node (k : Int) (nm : List UInt8) (kids : List T)
def T.kind : T → Int | .node k _ _ => k
def T.name : T → List UInt8 | .node _ nm _ => nm
def T.kids : T → List T | .node _ _ l => l
mutual
/-- A formula that lies in the world, its kids in blocks that are so. -/
def IsTree (R : Nat → Prop) (W : World) : T → Value → Prop
  | .node k nm kids, v => ∃ ao cap, v = .agg #[.int .i64 k, .string ⟨nm.toArray⟩, .slice ao kids.length cap] ∧ kids.length ≤ 9223372036854775807 ∧ IsKids R W ao 0 kids
def IsKids (R : Nat → Prop) (W : World) (ao : Option Addr) : Nat → List T → Prop
  | _, [] => True
  | i, t :: ts => (∃ b o k nm sl, ao = some ⟨b, o, none⟩ ∧ R b ∧ W.cell? ⟨b, o + i * 3, none⟩ = some (.int .i64 k) ∧ W.cell? ⟨b, o + i * 3 + 1, none⟩ = some (.string nm) ∧ W.cell? ⟨b, o + i * 3 + 2, none⟩ = some sl ∧ IsTree R W t (.agg #[.int .i64 k, .string nm, sl])) ∧ IsKids R W ao (i + 1) ts
end
mutual
theorem IsTree.mono {R R' : Nat → Prop} {W W' : World} (hc : ∀ a v, R a.block → W.cell? a = some v → W'.cell? a = some v) (hR : ∀ b, R b → R' b) : ∀ (t : T) (v : Value), IsTree R W t v → IsTree R' W' t v
  | .node k nm kids, v, h => by
    rw [IsTree] at h ⊢
    obtain ⟨ao, cap, rfl, hl, hk⟩ := h
    exact ⟨ao, cap, rfl, hl, IsKids.mono hc hR kids ao 0 hk⟩
theorem IsKids.mono {R R' : Nat → Prop} {W W' : World} (hc : ∀ a v, R a.block → W.cell? a = some v → W'.cell? a = some v) (hR : ∀ b, R b → R' b) : ∀ (l : List T) (ao : Option Addr) (i : Nat), IsKids R W ao i l → IsKids R' W' ao i l
  | [], _, _, _ => by rw [IsKids]; trivial
  | t :: ts, ao, i, h => by
    rw [IsKids] at h ⊢
    obtain ⟨⟨b, o, k, nm, sl, hao, hb, c0, c1, c2, ht⟩, hts⟩ := h
    exact ⟨⟨b, o, k, nm, sl, hao, hR b hb, hc _ _ hb c0, hc _ _ hb c1, hc _ _ hb c2, IsTree.mono hc hR t _ ht⟩, IsKids.mono hc hR ts ao (i + 1) hts⟩
end
theorem IsKids.at {R : Nat → Prop} {W : World} {ao : Option Addr} : ∀ {l : List T} {i : Nat} (_ : IsKids R W ao i l) {j : Nat} {t : T}, l[j]? = some t →
    ∃ b o k nm sl, ao = some ⟨b, o, none⟩ ∧ R b ∧ W.cell? ⟨b, o + (i + j) * 3, none⟩ = some (.int .i64 k) ∧ W.cell? ⟨b, o + (i + j) * 3 + 1, none⟩ = some (.string nm) ∧ W.cell? ⟨b, o + (i + j) * 3 + 2, none⟩ = some sl ∧ IsTree R W t (.agg #[.int .i64 k, .string nm, sl])
  | [], _, _, _, _, h => by simp at h
  | t :: ts, i, hk, 0, u, h => by
    rw [IsKids] at hk
    obtain rfl : t = u := by simpa using h
    exact hk.1
  | t :: ts, i, hk, j + 1, u, h => by
    rw [IsKids] at hk
    have := IsKids.at hk.2 (j := j) (t := u) (by simpa using h)
    rw [show i + 1 + j = i + (j + 1) by omega] at this
    exact this
theorem IsKids.mk {R : Nat → Prop} {W : World} {ao : Option Addr} : ∀ (l : List T) (i : Nat), (∀ j t, l[j]? = some t →
    ∃ b o k nm sl, ao = some ⟨b, o, none⟩ ∧ R b ∧ W.cell? ⟨b, o + (i + j) * 3, none⟩ = some (.int .i64 k) ∧ W.cell? ⟨b, o + (i + j) * 3 + 1, none⟩ = some (.string nm) ∧ W.cell? ⟨b, o + (i + j) * 3 + 2, none⟩ = some sl ∧ IsTree R W t (.agg #[.int .i64 k, .string nm, sl])) → IsKids R W ao i l
  | [], _, _ => by rw [IsKids]; trivial
  | t :: ts, i, h => by
    rw [IsKids]
    refine ⟨by have := h 0 t rfl; simpa using this, IsKids.mk ts (i + 1) (fun j u hj => ?_)⟩
    have := h (j + 1) u (by simpa using hj)
    rw [show i + (j + 1) = i + 1 + j by omega] at this
    exact this
theorem IsTree.chg {R : Nat → Prop} {S : Nat → Prop} {W W' : World} {t : T} {v : Value} (h : IsTree R W t v) (hc : Chg S W W') (hs : ∀ b, R b → ¬ S b) : IsTree R W' t v :=
  h.mono (fun _a _ hb hv => hc.cell' hv (hs _ hb)) (fun _ e => e) t v
theorem IsTree.nob {R : Nat → Prop} {W W' : World} {t : T} {v : Value} (h : IsTree R W t v) (hc : Chg Nob W W') : IsTree R W' t v := h.chg hc (fun _ _ e => e)
theorem IsTree.parts {R : Nat → Prop} {W : World} {t : T} {v : Value} (h : IsTree R W t v) : ∃ ao cap, v = .agg #[.int .i64 t.kind, .string ⟨t.name.toArray⟩, .slice ao t.kids.length cap] ∧ t.kids.length ≤ 9223372036854775807 ∧ IsKids R W ao 0 t.kids := by
  cases t with
  | node k nm kids => rw [IsTree] at h; exact h
theorem IsTree.of_parts {R : Nat → Prop} {W : World} {t : T} {ao : Option Addr} {cap : Nat} (hl : t.kids.length ≤ 9223372036854775807) (h : IsKids R W ao 0 t.kids) : IsTree R W t (.agg #[.int .i64 t.kind, .string ⟨t.name.toArray⟩, .slice ao t.kids.length cap]) := by
  cases t with
  | node k nm kids => rw [IsTree]; exact ⟨ao, cap, rfl, hl, h⟩
theorem IsKids.kid {R : Nat → Prop} {W : World} {ao : Option Addr} {l : List T} (h : IsKids R W ao 0 l) {j : Nat} {t : T} (ht : l[j]? = some t) :
    ∃ b o ak cap, ao = some ⟨b, o, none⟩ ∧ R b ∧ W.cell? ⟨b, o + j * 3, none⟩ = some (.int .i64 t.kind) ∧ W.cell? ⟨b, o + j * 3 + 1, none⟩ = some (.string ⟨t.name.toArray⟩) ∧ W.cell? ⟨b, o + j * 3 + 2, none⟩ = some (.slice ak t.kids.length cap) ∧ t.kids.length ≤ 9223372036854775807 ∧ IsKids R W ak 0 t.kids ∧ IsTree R W t (.agg #[.int .i64 t.kind, .string ⟨t.name.toArray⟩, .slice ak t.kids.length cap]) := by
  obtain ⟨b, o, k, nm, sl, hao, hb, c0, c1, c2, hv⟩ := h.at ht
  rw [Nat.zero_add] at c0 c1 c2
  obtain ⟨ak, cap, e, hl, hk⟩ := hv.parts
  simp at e
  obtain ⟨rfl, rfl, rfl⟩ := e
  exact ⟨b, o, ak, cap, hao, hb, c0, c1, c2, hl, hk, hv⟩
end Go.Proofs.YtkgfdgfhpdhhaaaGreat
namespace Go.Proofs.YtkgfdgfhpdhhaaaGreat
open Go.ChangeShapes Go.WideShapes Go.RowKit
theorem list_of {α : Type} {P : Nat → α → Prop} : ∀ n, (∀ i, i < n → ∃ x, P i x) → ∃ L : List α, L.length = n ∧ ∀ i x, L[i]? = some x → P i x
  | 0, _ => ⟨[], rfl, fun i x h => by simp at h⟩
  | n + 1, h => by
    obtain ⟨L, hl, hp⟩ := list_of n (fun i hi => h i (by omega))
    obtain ⟨x, hx⟩ := h n (by omega)
    refine ⟨L ++ [x], by simp [hl], fun i y hy => ?_⟩
    by_cases hi : i < n
    · rw [List.getElem?_append_left (by omega)] at hy; exact hp i y hy
    · have hi2 : i = n := by
        have := (List.getElem?_eq_some_iff.1 hy).1; simp [hl] at this; omega
      subst hi2
      rw [List.getElem?_append_right (by omega), hl] at hy
      simp at hy; subst hy; exact hx
section
variable {H : Type} {enc : TypeId × Value → H} {W : World}
end
end Go.Proofs.YtkgfdgfhpdhhaaaGreat
namespace Go.Proofs.YtkgfdgfhpdhhaaaGreat
open Go.ChangeShapes Go.WideShapes Go.RowKit
mutual
def sizeT : T → Nat
  | .node _ _ kids => 1 + sizeL kids
def sizeL : List T → Nat
  | [] => 0
  | t :: ts => sizeT t + sizeL ts
end
theorem sizeT_eq (t : T) : sizeT t = 1 + sizeL t.kids := by cases t; rw [sizeT]; rfl
end Go.Proofs.YtkgfdgfhpdhhaaaGreat
namespace Go.Proofs.YtkgfdgfhpdhhaaaGreat
open Go.ChangeShapes Go.WideShapes Go.RowKit
mutual
def depthT : T → Nat
  | .node _ _ kids => depthL kids + 1
def depthL : List T → Nat
  | [] => 0
  | t :: ts => max (depthT t) (depthL ts)
end
theorem depthT_eq (t : T) : depthT t = depthL t.kids + 1 := by cases t; rw [depthT]; rfl
end Go.Proofs.YtkgfdgfhpdhhaaaGreat
namespace Go.Proofs.YtkgfdgfhpdhhaaaGreat
open Go.ChangeShapes Go.WideShapes Go.RowKit
def okNode (k : Int) (nm : List UInt8) (n : Nat) : Bool := decide (kidsOf k = n) && (if k = 3 then nameB nm else decide (nm = []))
mutual
def mayT : T → Bool
  | .node k nm kids => okNode k nm kids.length && mayL kids
def mayL : List T → Bool
  | [] => true
  | t :: ts => mayT t && mayL ts
end
theorem mayT_eq (t : T) : mayT t = (okNode t.kind t.name t.kids.length && mayL t.kids) := by cases t; rw [mayT]; rfl
theorem mayL_not : ∀ {l : List T} {j : Nat} {u : T}, l[j]? = some u → mayT u = false → mayL l = false
  | [], _, _, h, _ => by simp at h
  | t :: ts, 0, u, h, hm => by
    obtain rfl : t = u := by simpa using h
    rw [mayL, hm]; rfl
  | t :: ts, j + 1, u, h, hm => by
    rw [mayL, mayL_not (l := ts) (j := j) (u := u) (by simpa using h) hm]
    simp
def checkN (t : T) : Int := if mayT t = false then 92 else if 100 < depthT t then 93 else 0
end Go.Proofs.YtkgfdgfhpdhhaaaGreat
namespace Go.Proofs.YtkgfdgfhpdhhaaaGreat
open Go.ChangeShapes Go.WideShapes Go.RowKit Go.Shelf
def isStr (E : Nat → Prop) (n0 k : Nat) (o : Obj) : Prop := n0 ≤ k ∧ ∃ cs t m, o = .cells cs t m ∧ E t
def Steps (E : Nat → Prop) (n0 n1 : Nat) (W W' : World) : Prop := Chg (fun k => n1 ≤ k ∧ ¬ ∃ o, W.heap[k]? = some o ∧ isStr E n0 k o) W W'
structure Keeps (E : Nat → Prop) (n0 : Nat) (V : Nat → Prop) (W W' : World) : Prop where
  size : W.heap.size ≤ W'.heap.size
  same : ∀ k o, W.heap[k]? = some o → ¬ V k → ¬ isStr E n0 k o → W'.heap[k]? = some o
theorem Steps.trans {E : Nat → Prop} {n0 n1 : Nat} {A B C : World} (h : Steps E n0 n1 A B) (k : Steps E n0 n1 B C) : Steps E n0 n1 A C :=
  Chg.trans h k (fun i hi hs => by
    refine ⟨hs.1, fun ⟨o, ho, hst⟩ => hs.2 ⟨o, ?_, hst⟩⟩
    exact Chg.at h ho (fun e => e.2 ⟨o, ho, hst⟩))
theorem Steps.mono {E : Nat → Prop} {n0 n1 n2 : Nat} {A B : World} (h : Steps E n0 n1 A B) (hn : n2 ≤ n1) : Steps E n0 n2 A B := Chg.mono h (fun _ _ e => ⟨Nat.le_trans hn e.1, e.2⟩)
theorem Steps.nob {E : Nat → Prop} {n0 n1 : Nat} {A B : World} (h : Chg Nob A B) : Steps E n0 n1 A B := Chg.any h
theorem Steps.put {E : Nat → Prop} {n0 n1 l : Nat} {A : World} {o o' : Obj} (hl : n1 ≤ l) (ho : A.heap[l]? = some o) (hs : ¬ isStr E n0 l o) : Steps E n0 n1 A (A.putObj l o') :=
  ⟨rfl, rfl, rfl, by simp, fun k _ hk => World.putObj_heap_other (fun e => hk (by subst e; exact ⟨hl, fun ⟨o2, h2, h3⟩ => by rw [ho] at h2; cases h2; exact hs h3⟩))⟩
theorem Keeps.refl (E : Nat → Prop) (n0 : Nat) (V : Nat → Prop) (W : World) : Keeps E n0 V W W := ⟨Nat.le_refl _, fun _ _ h _ _ => h⟩
theorem Keeps.trans {E : Nat → Prop} {n0 : Nat} {V : Nat → Prop} {A B C : World} (h : Keeps E n0 V A B) (k : Keeps E n0 V B C) : Keeps E n0 V A C :=
  ⟨Nat.le_trans h.size k.size, fun i o ho hv hs => k.same i o (h.same i o ho hv hs) hv hs⟩
theorem Keeps.mono {E : Nat → Prop} {n0 : Nat} {V V' : Nat → Prop} {A B : World} (h : Keeps E n0 V A B) (hv : ∀ k, V k → V' k) : Keeps E n0 V' A B :=
  ⟨h.size, fun i o ho hn hs => h.same i o ho (fun e => hn (hv i e)) hs⟩
theorem Keeps.of_chg {E : Nat → Prop} {n0 : Nat} {V : Nat → Prop} {A B : World} (h : Chg V A B) : Keeps E n0 V A B := ⟨h.size, fun _ _ ho hv _ => h.at ho hv⟩
theorem Keeps.put {E : Nat → Prop} {n0 : Nat} {V : Nat → Prop} {l : Nat} {A : World} {o' : Obj} (hv : V l) : Keeps E n0 V A (A.putObj l o') :=
  ⟨by simp, fun k o ho hn _ => (World.putObj_heap_other (fun e => hn (by subst e; exact hv))).trans ho⟩
theorem loop_not_str {E : Nat → Prop} {n0 k : Nat} (r : Loop) : ¬ isStr E n0 k (.loop r) := fun ⟨_, _, _, _, h, _⟩ => by cases h
theorem deferred_not_str {E : Nat → Prop} {n0 k : Nat} (r : Option (List Deferred)) : ¬ isStr E n0 k (.deferred r) := fun ⟨_, _, _, _, h, _⟩ => by cases h
def Iter {α : Type} (E : Nat → Prop) (n0 n : Nat) (g : Nat) (lb : Array Value) (encs : α → Array Value) (V0 : Nat → Prop) (xs : List α) (w : World) : Prop :=
  ∀ (l : Nat) (J Jx : List α → World → Prop) (W : World), Chg Nob w W → w.heap.size ≤ l → l < W.heap.size →
    (∀ pre A B, J pre A → Steps E n0 W.heap.size A B → J pre B) → (∀ pre A B, Jx pre A → Steps E n0 W.heap.size A B → Jx pre B) →
    (∀ pre x W1, J pre W1 → (pre ++ [x]) <+: xs → YieldAt Fence.wide (n - 1) Tryz.prog l (encs x) W1 fun e W' =>
      (e = .returned (.bool true) ∧ J (pre ++ [x]) W' ∧ Keeps E n0 (fun k => k = l ∨ V0 k) W1 W') ∨ (e = .returned (.bool false) ∧ Jx (pre ++ [x]) W' ∧ Keeps E n0 (fun k => k = l ∨ V0 k) W1 W')) →
    J [] W →
    CallsIn Fence.wide n Tryz.prog g (#[.func (.yield l) #[] #[]] ++ lb) W fun e W' => (∃ v, e = .returned v) ∧ (J xs W' ∨ (∃ pre, pre <+: xs ∧ Jx pre W'))
def rPost {α : Type} (E : Nat → Prop) (n0 : Nat) (V0 : Nat → Prop) (I : List α → World → Prop) (Ix : Code → List α → World → Prop) (xs : List α) (W : World) : Exit → Act → World → Prop
  | .normal, _, W' => Keeps E n0 V0 W W' ∧ I xs W'
  | .ret, _, W' => Keeps E n0 V0 W W' ∧ Ix .ret xs W'
  | .exit id, _, W' => Keeps E n0 V0 W W' ∧ Ix (.exit id) xs W'
  | .goto t, _, W' => Keeps E n0 V0 W W' ∧ Ix (.goto t) xs W'
  | .panic _, _, _ => False
  | .outgrown, _, _ => False
set_option maxHeartbeats 1000000 in
theorem range_iter {α : Type} {E : Nat → Prop} {n0 n : Nat} {g : Operand} {ps : Array Tmp} {assign body : Code} {Q : Exit → Act → World → Prop} {a : Act} {w : World} (h1 : 1 ≤ n)
    {gf : Nat} {lb : Array Value} (hg : a.eval g = .func (.func gf) #[] lb) (eg : ∀ args w, (callFunc gf args).run Tryz.prog w = .ok (.enter gf args) w)
    {encs : α → Array Value} {V0 : Nat → Prop} {xs : List α} (hit : Iter E n0 (n - 1) gf lb encs V0 xs w) (hV : ∀ k, V0 k → k < w.heap.size) (hps : ∀ x, (encs x).size = ps.size)
    (I : List α → World → Prop) (Ix : Code → List α → World → Prop) (hI : ∀ pre A B, I pre A → Steps E n0 (w.heap.size + 1) A B → I pre B) (hIx : ∀ c pre A B, Ix c pre A → Steps E n0 (w.heap.size + 1) A B → Ix c pre B) (h0 : I [] w)
    (hround : ∀ (l : Nat) (pre : List α) (x : α) (W : World), I pre W → (pre ++ [x]) <+: xs → w.heap.size + 1 < W.heap.size →
      assign.wpIn (Fence.wide.inRound l) (n - 1 - 1) Tryz.prog (Exit.then (fun a₁ w₁ => Keeps E n0 V0 W w₁ ∧ ∀ w₂, Chg (At1 (w.heap.size + 1)) w₁ w₂ → Steps E n0 (w.heap.size + 1) w₁ w₂ → body.wpIn (Fence.wide.inRound l) (n - 1 - 1) Tryz.prog (rPost E n0 V0 I Ix (pre ++ [x]) w₂) a₁ w₂) (fun _ _ _ => False))
        { tmps := (ps.zip (encs x)).foldl (fun t (p, v) => t.setIfInBounds p v) a.tmps, defers := [] } W)
    (hdone : ∀ (W : World), I xs W → W.heap[w.heap.size]? = some (.deferred (some [])) → Q .normal { a with defers := { target := .collected w.heap.size, args := #[] } :: a.defers } W)
    (hstop : ∀ (c : Code) (pre : List α) (W : World), pre <+: xs → Ix c pre W → W.heap[w.heap.size]? = some (.deferred (some [])) → c.wpIn Fence.wide n Tryz.prog Q { a with defers := { target := .collected w.heap.size, args := #[] } :: a.defers } W) :
    (Code.rangeFunc g ps assign body).wpIn Fence.wide n Tryz.prog Q a w := by
  refine wpIn_rangeFunc fun fn hfn => ?_
  let rec0 : LoopState → Option Code → Loop := fun st pe => { state := st, pending := pe, fn, tmps := a.tmps, params := ps, assign, body, defers := w.heap.size }
  obtain ⟨W1, hW1⟩ : ∃ W1, (w.alloc (.deferred (some []))).alloc (.loop (rec0 .ready none)) = W1 := ⟨_, rfl⟩
  have hsz : W1.heap.size = w.heap.size + 2 := by rw [← hW1]; simp
  have hcW : Chg Nob w W1 := by rw [← hW1]; exact ((Chg.refl _ _).alloc _).alloc _
  have hL1 : W1.heap[w.heap.size + 1]? = some (.loop (rec0 .ready none)) := by
    rw [← hW1]
    have := World.alloc_heap_new (w.alloc (.deferred (some []))) (.loop (rec0 .ready none))
    rwa [World.size_alloc] at this
  have hD1 : W1.heap[w.heap.size]? = some (.deferred (some [])) := by
    rw [← hW1]
    exact ((Chg.refl Nob (w.alloc (.deferred (some [])))).alloc _).at (World.alloc_heap_new w _) (fun e => e)
  refine ⟨w.heap.size + 1, [{ target := .collected w.heap.size, args := #[] }], W1, { target := .fn (.func gf) lb, args := #[.func (.yield (w.heap.size + 1)) #[] #[]] }, W1, gf,
    #[.func (.yield (w.heap.size + 1)) #[] #[]] ++ lb, W1, ?_, ?_, fun _ _ => trivial, ?_, fun _ => h1, ?_⟩
  · rw [← hW1]; exact run_enterLoop_outer _ _ _ _ _
  · simp only [resolve, hg]
    simp [go_sem]
  · simp [invoke, go_sem, eg]
  · have hstep : ∀ (pre : List α) (A B : World), (I pre A ∧ A.heap[w.heap.size + 1]? = some (.loop (rec0 .ready none)) ∧ A.heap[w.heap.size]? = some (.deferred (some []))) → Steps E n0 W1.heap.size A B →
        (I pre B ∧ B.heap[w.heap.size + 1]? = some (.loop (rec0 .ready none)) ∧ B.heap[w.heap.size]? = some (.deferred (some []))) := fun pre A B h hs =>
      ⟨hI pre A B h.1 (hs.mono (by omega)), Chg.at hs h.2.1 (fun e => by have := e.1; omega), Chg.at hs h.2.2 (fun e => by have := e.1; omega)⟩
    refine (hit (w.heap.size + 1)
      (fun pre W => I pre W ∧ W.heap[w.heap.size + 1]? = some (.loop (rec0 .ready none)) ∧ W.heap[w.heap.size]? = some (.deferred (some [])))
      (fun pre W => ∃ c, Ix c pre W ∧ W.heap[w.heap.size + 1]? = some (.loop (rec0 .done (some c))) ∧ W.heap[w.heap.size]? = some (.deferred (some [])))
      W1 hcW (by omega) (by omega) hstep
      (fun pre A B h hs => by
        obtain ⟨c, h1, h2, h3⟩ := h
        exact ⟨c, hIx c pre A B h1 (hs.mono (by omega)), Chg.at hs h2 (fun e => by have := e.1; omega), Chg.at hs h3 (fun e => by have := e.1; omega)⟩)
      ?_ ⟨hI [] w W1 h0 (Steps.nob hcW), hL1, hD1⟩).mono ?_
    · rintro pre x W ⟨hi, hl, hd⟩ hpre
      have hy := run_yield (P := Tryz.prog) (args := encs x) hl (hps x)
      refine ⟨fn, _, assign, body, hy, roundIn_of_wpIn hfn ?_⟩
      have hWs : w.heap.size + 1 < W.heap.size := (Array.getElem?_eq_some_iff.1 hl).1
      refine wpIn_mono (hround _ pre x W hi hpre hWs) ?_
      intro e a₁ w₁ hq
      cases e with
      | normal =>
        obtain ⟨hk1, hbody⟩ := hq
        have hl1 := hk1.same _ _ hl (fun hv => by have := hV _ hv; omega) (loop_not_str _)
        have hd1 := hk1.same _ _ hd (fun hv => by have := hV _ hv; omega) (deferred_not_str _)
        refine ⟨_, run_beginRound hl1 rfl, ?_⟩
        have hlt : w.heap.size + 1 < w₁.heap.size := (Array.getElem?_eq_some_iff.1 hl1).1
        have hc2 : Chg (At1 (w.heap.size + 1)) w₁ (w₁.putObj (w.heap.size + 1) (.loop { rec0 .ready none with state := .busy })) :=
          ⟨rfl, rfl, rfl, by simp, fun k _ hk => World.putObj_heap_other hk⟩
        have hl2 : (w₁.putObj (w.heap.size + 1) (.loop { rec0 .ready none with state := .busy })).heap[w.heap.size + 1]? = some (.loop { rec0 .ready none with state := .busy }) := World.putObj_heap_same hlt
        have hd2 := hc2.at hd1 (fun e => by have e : w.heap.size = w.heap.size + 1 := e; omega)
        refine wpIn_mono (hbody _ hc2 (Steps.put (Nat.le_refl _) hl1 (loop_not_str _))) ?_
        have fin : ∀ (jump : Option Code) (W3 : World), Keeps E n0 V0 (w₁.putObj (w.heap.size + 1) (.loop { rec0 .ready none with state := .busy })) W3 →
            (Instr.endRound (w.heap.size + 1) jump).run Tryz.prog W3 = .ok (.bool jump.isNone) (W3.putObj (w.heap.size + 1) (.loop (rec0 (if jump.isNone then .ready else .done) jump))) ∧
            W3.heap[w.heap.size + 1]? = some (.loop { rec0 .ready none with state := .busy }) ∧
            (W3.putObj (w.heap.size + 1) (.loop (rec0 (if jump.isNone then .ready else .done) jump))).heap[w.heap.size + 1]? = some (.loop (rec0 (if jump.isNone then .ready else .done) jump)) ∧
            (W3.putObj (w.heap.size + 1) (.loop (rec0 (if jump.isNone then .ready else .done) jump))).heap[w.heap.size]? = some (.deferred (some [])) ∧
            Keeps E n0 (fun k => k = w.heap.size + 1 ∨ V0 k) W (W3.putObj (w.heap.size + 1) (.loop (rec0 (if jump.isNone then .ready else .done) jump))) := fun jump W3 hk3 => by
          have hl3 := hk3.same _ _ hl2 (fun hv => by have := hV _ hv; omega) (loop_not_str _)
          have hd3 := hk3.same _ _ hd2 (fun hv => by have := hV _ hv; omega) (deferred_not_str _)
          refine ⟨run_endRound (P := Tryz.prog) jump hl3, hl3, World.putObj_heap_same (Array.getElem?_eq_some_iff.1 hl3).1, (World.putObj_heap_other (by omega)).trans hd3, ?_⟩
          exact (((hk1.mono (fun _ h => .inr h)).trans (Keeps.put (.inl rfl))).trans (hk3.mono (fun _ h => .inr h))).trans (Keeps.put (.inl rfl))
        intro e a3 W3 hp
        cases e with
        | normal =>
          obtain ⟨hk3, hi3⟩ := hp
          obtain ⟨hr, hl3, hl4, hd4, hkk⟩ := fin none W3 hk3
          exact ⟨_, _, hr, .inl ⟨rfl, ⟨hI _ _ _ hi3 (Steps.put (Nat.le_refl _) hl3 (loop_not_str _)), hl4, hd4⟩, hkk⟩⟩
        | ret =>
          obtain ⟨hk3, hi3⟩ := hp
          obtain ⟨hr, hl3, hl4, hd4, hkk⟩ := fin (some .ret) W3 hk3
          exact ⟨_, _, hr, .inr ⟨rfl, ⟨.ret, hIx _ _ _ _ hi3 (Steps.put (Nat.le_refl _) hl3 (loop_not_str _)), hl4, hd4⟩, hkk⟩⟩
        | exit id =>
          obtain ⟨hk3, hi3⟩ := hp
          obtain ⟨hr, hl3, hl4, hd4, hkk⟩ := fin (some (.exit id)) W3 hk3
          exact ⟨_, _, hr, .inr ⟨rfl, ⟨.exit id, hIx _ _ _ _ hi3 (Steps.put (Nat.le_refl _) hl3 (loop_not_str _)), hl4, hd4⟩, hkk⟩⟩
        | goto t =>
          obtain ⟨hk3, hi3⟩ := hp
          obtain ⟨hr, hl3, hl4, hd4, hkk⟩ := fin (some (.goto t)) W3 hk3
          exact ⟨_, _, hr, .inr ⟨rfl, ⟨.goto t, hIx _ _ _ _ hi3 (Steps.put (Nat.le_refl _) hl3 (loop_not_str _)), hl4, hd4⟩, hkk⟩⟩
        | panic ch => exact hp.elim
        | outgrown => exact hp.elim
      | ret => exact hq
      | exit id => exact hq
      | goto t => exact hq
      | panic ch => exact hq
      | outgrown => exact hq
    · rintro e W2 ⟨⟨v, rfl⟩, (⟨hi, hl, hd⟩ | ⟨pre, hpre, c, hi, hl, hd⟩)⟩
      · exact ⟨none, _, run_endLoop (P := Tryz.prog) hl (by simp [rec0]), hdone _ (hI _ _ _ hi (Steps.put (Nat.le_refl _) hl (loop_not_str _))) ((World.putObj_heap_other (by omega)).trans hd)⟩
      · exact ⟨some c, _, run_endLoop (P := Tryz.prog) hl (by simp [rec0]), hstop c pre _ hpre (hIx c _ _ _ hi (Steps.put (Nat.le_refl _) hl (loop_not_str _))) ((World.putObj_heap_other (by omega)).trans hd)⟩
end Go.Proofs.YtkgfdgfhpdhhaaaGreat
