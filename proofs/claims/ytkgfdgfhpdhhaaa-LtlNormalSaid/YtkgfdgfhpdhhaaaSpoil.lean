/- The spoiling of a formula. Conditions: its rows are of its own. -/
import Derived.Test.YtkgfdgfhpdhhaaaLev
namespace Go.Proofs.Ytkgfdgfhpdhhaaa
open Go.ChangeShapes Go.WideShapes Go.RowKit

def spoilt0 : Value := .int .i64 66
def spoilt1 : Value := .string ⟨#[115, 112, 111, 105, 108, 116]⟩
def Leaf (v : Value) : Prop := ∃ (k : Int) (nm : ByteArray), v = .agg #[.int .i64 k, .string nm, .slice none 0 0]
/-- A value like a formula, its rows of R. -/
def FS (R : Nat → Prop) (W : World) : Nat → Value → Prop
  | 0, v => Leaf v
  | n + 1, v => Leaf v ∨ ∃ (k : Int) (nm : ByteArray) (b len : Nat) (cs : Array Value), R b ∧ v = .agg #[.int .i64 k, .string nm, .slice (some ⟨b, 0, none⟩) len len] ∧ W.heap[b]? = some (.cells cs 37 (0, 0)) ∧ cs.size = len * 3 ∧ len ≤ 2 ∧
      ∀ j, j < len → ∃ c0 c1 c2, cs[j * 3]? = some c0 ∧ cs[j * 3 + 1]? = some c1 ∧ cs[j * 3 + 2]? = some c2 ∧ FS R W n (.agg #[c0, c1, c2])
theorem FS.leaf {R : Nat → Prop} {W : World} {v : Value} (h : Leaf v) : ∀ n, FS R W n v
  | 0 => h
  | _ + 1 => .inl h
/-- In the rows of R each place is as it was or spoilt. -/
def Spo (R : Nat → Prop) (W W' : World) : Prop := ∀ b cs, R b → W.heap[b]? = some (.cells cs 37 (0, 0)) → ∃ cs', W'.heap[b]? = some (.cells cs' 37 (0, 0)) ∧ cs'.size = cs.size ∧
  ∀ j c0 c1 c2, cs[j * 3]? = some c0 → cs[j * 3 + 1]? = some c1 → cs[j * 3 + 2]? = some c2 → (cs'[j * 3]? = some c0 ∧ cs'[j * 3 + 1]? = some c1 ∧ cs'[j * 3 + 2]? = some c2) ∨ (cs'[j * 3]? = some spoilt0 ∧ cs'[j * 3 + 1]? = some spoilt1 ∧ cs'[j * 3 + 2]? = some (.slice none 0 0))
theorem Spo.refl (R : Nat → Prop) (W : World) : Spo R W W := fun _ cs _ h => ⟨cs, h, rfl, fun _ _ _ _ h0 h1 h2 => .inl ⟨h0, h1, h2⟩⟩
theorem Spo.of_chg {R S : Nat → Prop} {W W' : World} (h : Chg S W W') (hs : ∀ b, R b → b < W.heap.size → ¬ S b) : Spo R W W' := fun b cs hb ho => ⟨cs, h.at ho (hs b hb (Array.getElem?_eq_some_iff.1 ho).1), rfl, fun _ _ _ _ h0 h1 h2 => .inl ⟨h0, h1, h2⟩⟩
theorem Spo.trans {R : Nat → Prop} {A B C : World} (h : Spo R A B) (k : Spo R B C) : Spo R A C := by
  intro b cs hb ho
  obtain ⟨cs1, h1, z1, k1⟩ := h b cs hb ho
  obtain ⟨cs2, h2, z2, k2⟩ := k b cs1 hb h1
  refine ⟨cs2, h2, z2.trans z1, fun j c0 c1 c2 e0 e1 e2 => ?_⟩
  rcases k1 j c0 c1 c2 e0 e1 e2 with ⟨f0, f1, f2⟩ | ⟨f0, f1, f2⟩
  · exact k2 j _ _ _ f0 f1 f2
  · rcases k2 j _ _ _ f0 f1 f2 with h | h
    · exact .inr h
    · exact .inr h
theorem FS.spo {R : Nat → Prop} {W W' : World} (h : Spo R W W') : ∀ (n : Nat) (v : Value), FS R W n v → FS R W' n v
  | 0, _, hv => hv
  | n + 1, v, hv => by
    rcases hv with hv | ⟨k, nm, b, len, cs, hb, rfl, ho, hz, hl2, hk⟩
    · exact .inl hv
    · obtain ⟨cs', ho', hz', hk'⟩ := h b cs hb ho
      refine .inr ⟨k, nm, b, len, cs', hb, rfl, ho', hz'.trans hz, hl2, fun j hj => ?_⟩
      obtain ⟨c0, c1, c2, e0, e1, e2, hf⟩ := hk j hj
      rcases hk' j c0 c1 c2 e0 e1 e2 with ⟨f0, f1, f2⟩ | ⟨f0, f1, f2⟩
      · exact ⟨c0, c1, c2, f0, f1, f2, FS.spo h n _ hf⟩
      · exact ⟨_, _, _, f0, f1, f2, FS.leaf ⟨66, _, rfl⟩ n⟩
theorem FS.of_fresh {R : Nat → Prop} {W : World} : ∀ (N : Nat) (t : T) (v : Value), sizeT t ≤ N → Fresh R W t v → FS R W N v := by
  intro N
  induction N with
  | zero => intro t v h _; have := sizeT_pos t; omega
  | succ N ih =>
    intro t v hN h
    cases t with
    | node k nm kids =>
      rw [Fresh] at h
      rcases h with ⟨rfl, rfl⟩ | ⟨b, cs, hb, rfl, ho, h2, hk⟩
      · exact .inl ⟨k, _, rfl⟩
      · refine .inr ⟨k, _, b, kids.length, cs, hb, rfl, ho, ?_, h2, fun j hj => ?_⟩
        · have key : ∀ (l : List T) (c : List Value), FreshL R W l c → c.length = l.length * 3 := by
            intro l
            induction l with
            | nil =>
              intro c hc
              cases c with
              | nil => rfl
              | cons x c => rw [FreshL] at hc; exact hc.elim; all_goals simp
            | cons t ts ih2 =>
              intro c hc
              match c, hc with
              | c0 :: c1 :: c2 :: cs, hc =>
                rw [FreshL] at hc
                simp only [List.length_cons]
                rw [ih2 cs hc.2]; omega
              | [], hc => rw [FreshL] at hc; exact hc.elim; all_goals simp
              | [_], hc => rw [FreshL] at hc; exact hc.elim; all_goals simp
              | [_, _], hc => rw [FreshL] at hc; exact hc.elim; all_goals simp
          have := key kids cs.toList hk
          simpa using this
        · obtain ⟨x, hx⟩ : ∃ x, kids[j]? = some x := ⟨_, List.getElem?_eq_getElem hj⟩
          obtain ⟨c0, c1, c2, e0, e1, e2, hf⟩ := FreshL.at hk hx
          rw [Array.getElem?_toList] at e0 e1 e2
          have := sizeT_kid hx
          rw [sizeT] at hN
          exact ⟨c0, c1, c2, e0, e1, e2, ih x _ (by omega) hf⟩
theorem row_cell {W : World} {b : Nat} {cs : Array Value} {t : TypeId} (h : W.heap[b]? = some (.cells cs t (0, 0))) {j : Nat} {x : Value} (hj : cs[j]? = some x) : W.cell? ⟨b, j, none⟩ = some x ∧ W.frozen? ⟨b, j, none⟩ = false := by
  refine ⟨cell_row h j hj, ?_⟩
  simp [World.frozen?, h]
theorem row_set3 {W : World} {b : Nat} {cs : Array Value} {t : TypeId} (h : W.heap[b]? = some (.cells cs t (0, 0))) (o : Nat) (u0 u1 u2 : Value) :
    (((W.setCell ⟨b, o, none⟩ u0).setCell ⟨b, o + 1, none⟩ u1).setCell ⟨b, o + 2, none⟩ u2).heap[b]? = some (.cells (((cs.setIfInBounds o u0).setIfInBounds (o + 1) u1).setIfInBounds (o + 2) u2) t (0, 0)) := by
  simp [World.setCell, Array.getElem?_modify, h]
theorem spo_set {R : Nat → Prop} {W : World} {b : Nat} {cs : Array Value} (h : W.heap[b]? = some (.cells cs 37 (0, 0))) (i : Nat) :
    Spo R W (((W.setCell ⟨b, i * 3, none⟩ spoilt0).setCell ⟨b, i * 3 + 1, none⟩ spoilt1).setCell ⟨b, i * 3 + 2, none⟩ (.slice none 0 0)) := by
  intro q qs hq ho
  by_cases e : q = b
  · subst e
    rw [h] at ho
    cases ho
    refine ⟨_, row_set3 h (i * 3) _ _ _, by simp, fun j c0 c1 c2 e0 e1 e2 => ?_⟩
    by_cases hj : j = i
    · subst hj
      have h0 := (Array.getElem?_eq_some_iff.1 e0).1
      have h1 := (Array.getElem?_eq_some_iff.1 e1).1
      have h2 := (Array.getElem?_eq_some_iff.1 e2).1
      refine .inr ⟨?_, ?_, ?_⟩
      · simp [h0]
      · simp [h1]
      · simp [h2]
    · refine .inl ⟨?_, ?_, ?_⟩
      · rw [Array.getElem?_setIfInBounds_ne (by omega), Array.getElem?_setIfInBounds_ne (by omega), Array.getElem?_setIfInBounds_ne (by omega)]; exact e0
      · rw [Array.getElem?_setIfInBounds_ne (by omega), Array.getElem?_setIfInBounds_ne (by omega), Array.getElem?_setIfInBounds_ne (by omega)]; exact e1
      · rw [Array.getElem?_setIfInBounds_ne (by omega), Array.getElem?_setIfInBounds_ne (by omega), Array.getElem?_setIfInBounds_ne (by omega)]; exact e2
  · refine ⟨qs, ?_, rfl, fun _ _ _ _ h0 h1 h2 => .inl ⟨h0, h1, h2⟩⟩
    rw [Below.heap_setCell _ _ _ _ e, Below.heap_setCell _ _ _ _ e, Below.heap_setCell _ _ _ _ e]
    exact ho
theorem leaf_parts {R : Nat → Prop} {W : World} : ∀ {n : Nat} {v : Value}, FS R W n v → ∃ (k : Int) (nm : ByteArray) (ao : Option Addr) (len : Nat), v = .agg #[.int .i64 k, .string nm, .slice ao len len]
  | 0, _, ⟨k, nm, h⟩ => ⟨k, nm, none, 0, h⟩
  | _ + 1, _, .inl ⟨k, nm, h⟩ => ⟨k, nm, none, 0, h⟩
  | _ + 1, _, .inr ⟨k, nm, b, len, _, _, h, _⟩ => ⟨k, nm, some ⟨b, 0, none⟩, len, h⟩

set_option maxRecDepth 100000 in
set_option maxHeartbeats 2000000 in
theorem spoil_any (R : Nat → Prop) : ∀ (n : Nat) (v : Value) (w : World), FS R w n v → (∀ b, R b → b < w.heap.size) → Calls Try.prog 27 #[v] w fun e w' => e = .returned (.tuple #[]) ∧ Chg R w w' ∧ Spo R w w' := by
  have leaf : ∀ (v : Value) (w : World), Leaf v → (∀ b, R b → b < w.heap.size) → Calls Try.prog 27 #[v] w fun e w' => e = .returned (.tuple #[]) ∧ Chg R w w' ∧ Spo R w w' := by
    rintro v w ⟨k, nm, rfl⟩ hR
    have hcW : Chg Nob w (w.alloc (.cells #[.int .i64 k, .string nm, .slice none 0 0] 37)) := (Chg.refl _ _).alloc _
    have hb := heap_alloc_new w (.cells #[.int .i64 k, .string nm, .slice none 0 0] 37)
    obtain ⟨c0, c1, c2, _⟩ := cells_three hb
    clear hb
    go_enter Try.func27, Try.ntmps27
    go_wp2_with fail
    go_loopw [3] (fun i wr => i = .int .i64 0 ∧ wr = w.alloc (.cells #[.int .i64 k, .string nm, .slice none 0 0] 37)) (fun _ _ => 0)
    case atStart => exact ⟨rfl, rfl⟩
    case round =>
      obtain ⟨rfl, rfl⟩ := hrel
      go_wp2
      go_end0
      exact ⟨rfl, hcW.any, Spo.of_chg hcW (fun _ _ _ e => e)⟩
  intro n
  induction n with
  | zero => intro v w h hR; exact leaf v w h hR
  | succ n ih =>
    intro v w h hR
    rcases h with h | ⟨k, nm, b, len, cs, hb, rfl, ho, hz, hl2, hk⟩
    · exact leaf v w h hR
    have hcW : Chg Nob w (w.alloc (.cells #[.int .i64 k, .string nm, .slice (some ⟨b, 0, none⟩) len len] 37)) := (Chg.refl _ _).alloc _
    have hbx := heap_alloc_new w (.cells #[.int .i64 k, .string nm, .slice (some ⟨b, 0, none⟩) len len] 37)
    obtain ⟨W, hW⟩ : ∃ W, W = w.alloc (.cells #[.int .i64 k, .string nm, .slice (some ⟨b, 0, none⟩) len len] 37) := ⟨_, rfl⟩
    rw [← hW] at hcW hbx
    obtain ⟨c0, c1, c2, _⟩ := cells_three hbx
    have Ih := Lib.hid ih
    have Hk := Lib.hid hk
    have Ho := Lib.hid ho
    have HR := Lib.hid hR
    clear hbx ih hk ho leaf hR
    subst hW
    go_enter Try.func27, Try.ntmps27
    go_wp2_with fail
    generalize w.alloc (.cells #[.int .i64 k, .string nm, .slice (some ⟨b, 0, none⟩) len len] 37) = W at *
    clear c0 c1 c2
    go_loopw [3] (fun i wr => ∃ j : Nat, i = .int .i64 (j : Int) ∧ j ≤ len ∧ Hid (Chg R W wr ∧ Spo R W wr)) (fun i _ => len - (intOf i).toNat)
    case atStart => exact ⟨0, rfl, Nat.zero_le _, Chg.refl _ _, Spo.refl _ _⟩
    case round =>
      obtain ⟨j, rfl, hj, HS⟩ := hrel
      have hcwr : Chg R w wr := hcW.any.trans1 HS.out.1
      have hSw : Spo R w wr := (Spo.of_chg hcW (fun _ _ _ e => e)).trans HS.out.2
      by_cases hlt : j < len
      · obtain ⟨x0, x1, x2, cs', ho', hz', y0, y1, y2, hf⟩ : ∃ x0 x1 x2 cs', wr.heap[b]? = some (.cells cs' 37 (0, 0)) ∧ cs'.size = len * 3 ∧ cs'[j * 3]? = some x0 ∧ cs'[j * 3 + 1]? = some x1 ∧ cs'[j * 3 + 2]? = some x2 ∧ FS R wr n (.agg #[x0, x1, x2]) := by
          obtain ⟨cs', ho', hz', hk'⟩ := hSw b cs hb Ho.out
          obtain ⟨d0, d1, d2, e0, e1, e2, hf⟩ := Hk.out j hlt
          rcases hk' j d0 d1 d2 e0 e1 e2 with ⟨f0, f1, f2⟩ | ⟨f0, f1, f2⟩
          · exact ⟨d0, d1, d2, cs', ho', hz'.trans hz, f0, f1, f2, FS.spo hSw n _ hf⟩
          · exact ⟨_, _, _, cs', ho', hz'.trans hz, f0, f1, f2, FS.leaf ⟨66, _, rfl⟩ n⟩
        obtain ⟨k2, nm2, a2, len2, hv⟩ := leaf_parts hf
        simp only [Value.agg.injEq, Array.mk.injEq, List.cons.injEq, and_true] at hv
        obtain ⟨rfl, rfl, rfl⟩ := hv
        have p0 := (row_cell ho' y0).1
        have p1 := (row_cell ho' y1).1
        have p2 := (row_cell ho' y2).1
        have hcall := Ih.out _ wr hf (fun q hq => Nat.lt_of_lt_of_le (HR.out q hq) hcwr.size)
        have hki : (j : Int) < (len : Int) := by omega
        have hk0 : (0 : Int) ≤ (j : Int) := by omega
        have Ho' := Lib.hid ho'
        clear ho' y0 y1 y2 hf
        go_wp2_with fail
        (with_reducible refine hcall.mono ?_)
        clear hcall p0 p1 p2
        rintro e w4 ⟨rfl, hc4, hs4⟩
        obtain ⟨qs, ho4, hz4, _⟩ := hs4 b cs' hb Ho'.out
        have g0 : qs[j * 3]? = some (qs[j * 3]'(by omega)) := Array.getElem?_eq_getElem (by omega)
        have g1 : qs[j * 3 + 1]? = some (qs[j * 3 + 1]'(by omega)) := Array.getElem?_eq_getElem (by omega)
        have g2 : qs[j * 3 + 2]? = some (qs[j * 3 + 2]'(by omega)) := Array.getElem?_eq_getElem (by omega)
        obtain ⟨r0, t0⟩ := row_cell ho4 g0
        obtain ⟨r1, t1⟩ := row_cell ho4 g1
        obtain ⟨r2, t2⟩ := row_cell ho4 g2
        have hset := spo_set (R := R) ho4 j
        have hch : Chg R w4 (((w4.setCell ⟨b, j * 3, none⟩ spoilt0).setCell ⟨b, j * 3 + 1, none⟩ spoilt1).setCell ⟨b, j * 3 + 2, none⟩ (.slice none 0 0)) :=
          (((Chg.refl R w4).setCell (p := ⟨b, j * 3, none⟩) (fun _ => hb) _).setCell (p := ⟨b, j * 3 + 1, none⟩) (fun _ => hb) _).setCell (p := ⟨b, j * 3 + 2, none⟩) (fun _ => hb) _
        have HN := Lib.hid (And.intro ((HS.out.1.trans1 hc4).trans1 hch) ((HS.out.2.trans hs4).trans hset))
        clear g0 g1 g2 ho4 hset hch
        go_wp2_with fail
        go_roundw
        case rel => exact ⟨j + 1, by go_num, by omega, HN⟩
        case measure => simp [intOf]; omega
      · obtain rfl : j = len := by omega
        go_wp2
        go_end0
        exact ⟨rfl, hcwr, hSw⟩
end Go.Proofs.Ytkgfdgfhpdhhaaa
