/- A reader of words. Conditions: it lies in the world. -/
import Derived.Test.YtkgfdgfhpdhhaaaToks
namespace Go.Proofs.Ytkgfdgfhpdhhaaa
open Go.ChangeShapes Go.WideShapes Go.RowKit

/-- Words that lie in the world. -/
def TokAt (w : World) (g o : Nat) (L : List Tok) : Prop := ∀ j x, L[j]? = some x → w.cell? ⟨g, o + j * 2, none⟩ = some (.string ⟨x.1.toArray⟩) ∧ w.cell? ⟨g, o + j * 2 + 1, none⟩ = some (.int .i64 (x.2 : Int))
/-- A reader that stands before words. -/
structure Rs (w : World) (rb g o cap : Nat) (L : List Tok) : Prop where
  box : w.heap[rb]? = some (.cells #[.slice (some ⟨g, o, none⟩) L.length cap] 86 (0, 0))
  le : L.length ≤ cap
  big : cap ≤ 9223372036854775807
  tok : TokAt w g o L
  ne : g ≠ rb
theorem TokAt.tail {w : World} {g o : Nat} {x : Tok} {L : List Tok} (h : TokAt w g o (x :: L)) : TokAt w g (o + 2) L := by
  intro j y hy
  have := h (j + 1) y (by simpa using hy)
  rw [show o + (j + 1) * 2 = o + 2 + j * 2 by omega] at this
  exact this
theorem TokAt.chg {S : Nat → Prop} {w w' : World} {g o : Nat} {L : List Tok} (h : TokAt w g o L) (hc : Chg S w w') (hs : ¬ S g) : TokAt w' g o L :=
  fun j x hx => ⟨hc.cell' (h j x hx).1 hs, hc.cell' (h j x hx).2 hs⟩
theorem Rs.nob {w w' : World} {rb g o cap : Nat} {L : List Tok} (h : Rs w rb g o cap L) (hc : Chg Nob w w') : Rs w' rb g o cap L :=
  ⟨hc.at h.box (fun e => e), h.le, h.big, h.tok.chg hc (fun e => e), h.ne⟩
/-- One word on. -/
theorem Rs.next {w : World} {rb g o cap : Nat} {x : Tok} {L : List Tok} (h : Rs w rb g o cap (x :: L)) : Rs (w.setCell ⟨rb, 0, none⟩ (.slice (some ⟨g, o + 2, none⟩) L.length (cap - 1))) rb g (o + 2) (cap - 1) L :=
  ⟨block_one_set h.box, by have := h.le; rw [List.length_cons] at this; omega, by have := h.big; omega, h.tok.tail.chg (S := At1 rb) ((Chg.refl (At1 rb) w).setCell (p := ⟨rb, 0, none⟩) (fun _ => rfl) _) (fun e => h.ne e), h.ne⟩
theorem Rs.gone {w : World} {rb : Nat} (v : Value) : Chg (At1 rb) w (w.setCell ⟨rb, 0, none⟩ v) := (Chg.refl (At1 rb) w).setCell (p := ⟨rb, 0, none⟩) (fun _ => rfl) _

set_option maxRecDepth 100000 in
set_option maxHeartbeats 1000000 in
theorem is_no {w : World} {rb g o cap : Nat} {x : Tok} {L : List Tok} (wd : List UInt8) (h : Rs w rb g o cap (x :: L)) (hx : (x.1 == wd) = false) :
    Calls Try.prog 81 #[.pointer (some ⟨rb, 0, none⟩), .string ⟨wd.toArray⟩] w (Rets (.bool false) w) := by
  have hbx := h.box
  have c0 := cell_row hbx 0 (v := .slice (some ⟨g, o, none⟩) (x :: L).length cap) rfl
  have c1 := (h.tok 0 x rfl).1
  have hx2 : (x.1 != wd) = true := by rw [bne, hx]; rfl
  rw [Nat.zero_mul, Nat.add_zero] at c1
  simp only [List.length_cons] at c0
  have h0 : (0 : Int) < (L.length : Int) + 1 := by omega
  obtain ⟨xt, hxt⟩ : ∃ xt, xt = x.1 := ⟨_, rfl⟩
  rw [← hxt] at hx hx2 c1
  clear h hbx hxt
  go_enter Try.func81, Try.ntmps81
  go_wp2
  go_ret
  exact ⟨rfl, rfl⟩
set_option maxRecDepth 100000 in
set_option maxHeartbeats 1000000 in
theorem is_yes {w : World} {rb g o cap : Nat} {x : Tok} {L : List Tok} (wd : List UInt8) (h : Rs w rb g o cap (x :: L)) (hx : x.1 = wd) (hn : wd ≠ []) (hL : L ≠ []) :
    Calls Try.prog 81 #[.pointer (some ⟨rb, 0, none⟩), .string ⟨wd.toArray⟩] w (Rets (.bool true) (w.setCell ⟨rb, 0, none⟩ (.slice (some ⟨g, o + 2, none⟩) L.length (cap - 1)))) := by
  have hbx := h.box
  have c0 := cell_row hbx 0 (v := .slice (some ⟨g, o, none⟩) (x :: L).length cap) rfl
  have f0 : w.frozen? ⟨rb, 0, none⟩ = false := by simp [World.frozen?, hbx]
  have c1 := (h.tok 0 x rfl).1
  have hle := h.le
  have hLp : 0 < L.length := List.length_pos_iff.2 hL
  rw [Nat.zero_mul, Nat.add_zero, hx] at c1
  simp only [List.length_cons] at c0 hle
  have hw1 : (wd == []) = false := by rw [beq_eq_false_iff_ne]; exact hn
  have hw2 : wd.isEmpty = false := by cases wd with
    | nil => exact absurd rfl hn
    | cons _ _ => rfl
  have h0 : (0 : Int) < (L.length : Int) + 1 := by omega
  have h1 : (1 : Int) ≤ (L.length : Int) + 1 := by omega
  have h2 : (L.length : Int) + 1 ≤ (cap : Int) := by omega
  have h3 := h.big
  have h4 : (1 : Int) < (cap : Int) := by omega
  clear h hbx hx hn hL
  go_enter Try.func81, Try.ntmps81
  go_wp2
  go_ret
  exact ⟨rfl, rfl⟩
set_option maxRecDepth 100000 in
set_option maxHeartbeats 1000000 in
theorem wrong_any {w : World} {rb g o cap : Nat} {x : Tok} {L : List Tok} (h : Rs w rb g o cap (x :: L)) :
    Calls Try.prog 160 #[.pointer (some ⟨rb, 0, none⟩)] w fun e w' => e = .panicked (stopE (wrongAt x).1 (wrongAt x).2) ∧ w = w' := by
  have hbx := h.box
  have c0 := cell_row hbx 0 (v := .slice (some ⟨g, o, none⟩) (x :: L).length cap) rfl
  have c1 := (h.tok 0 x rfl).1
  have c2 := (h.tok 0 x rfl).2
  rw [Nat.zero_mul, Nat.add_zero] at c1 c2
  simp only [List.length_cons] at c0
  have h0 : (0 : Int) < (L.length : Int) + 1 := by omega
  obtain ⟨xt, xp⟩ := x
  cases hx : (xt == []) with
  | true =>
    have e : xt = [] := beq_iff_eq.1 hx
    subst e
    clear h hbx hx
    go_enter Try.func160, Try.ntmps160
    go_wp2_with fail
    (with_reducible refine (give_any _ _ _).mono ?_)
    rintro e w' ⟨rfl, rfl⟩
    go_wp2
    exact ⟨rfl, rfl, rfl⟩
  | false =>
    have hi : xt.isEmpty = false := by cases xt with
      | nil => cases hx
      | cons _ _ => rfl
    have hw : wrongAt (xt, xp) = (92, xp) := by unfold wrongAt; rw [if_neg (beq_eq_false_iff_ne.1 hx)]
    rw [hw]
    clear h hbx hw
    go_enter Try.func160, Try.ntmps160
    go_wp2_with fail
    (with_reducible refine (give_any _ _ _).mono ?_)
    rintro e w' ⟨rfl, rfl⟩
    go_wp2
    exact ⟨rfl, rfl, rfl⟩

def Ge (lo : Nat) : Nat → Prop := fun b => lo ≤ b
mutual
/-- A formula that a call has made: its kids in rows of their own. -/
def Fresh (R : Nat → Prop) (W : World) : T → Value → Prop
  | .node k nm kids, v => (kids = [] ∧ v = .agg #[.int .i64 k, .string ⟨nm.toArray⟩, .slice none 0 0]) ∨
    ∃ b cs, R b ∧ v = .agg #[.int .i64 k, .string ⟨nm.toArray⟩, .slice (some ⟨b, 0, none⟩) kids.length kids.length] ∧ W.heap[b]? = some (.cells cs 37 (0, 0)) ∧ kids.length ≤ 2 ∧ FreshL R W kids cs.toList
def FreshL (R : Nat → Prop) (W : World) : List T → List Value → Prop
  | [], [] => True
  | t :: ts, c0 :: c1 :: c2 :: cs => Fresh R W t (.agg #[c0, c1, c2]) ∧ FreshL R W ts cs
  | _, _ => False
end
mutual
theorem Fresh.chg {R R' : Nat → Prop} {S : Nat → Prop} {W W' : World} (hc : Chg S W W') (hs : ∀ b, R b → b < W.heap.size → ¬ S b) (hl : ∀ b, R b → R' b) : ∀ (t : T) (v : Value), Fresh R W t v → Fresh R' W' t v
  | .node k nm kids, v, h => by
    rw [Fresh] at h ⊢
    rcases h with h | ⟨b, cs, hb, hv, ho, h2, hk⟩
    · exact .inl h
    · exact .inr ⟨b, cs, hl b hb, hv, hc.at ho (hs b hb (Array.getElem?_eq_some_iff.1 ho).1), h2, FreshL.chg hc hs hl kids cs.toList hk⟩
theorem FreshL.chg {R R' : Nat → Prop} {S : Nat → Prop} {W W' : World} (hc : Chg S W W') (hs : ∀ b, R b → b < W.heap.size → ¬ S b) (hl : ∀ b, R b → R' b) : ∀ (l : List T) (cs : List Value), FreshL R W l cs → FreshL R' W' l cs
  | [], [], _ => by rw [FreshL]; trivial
  | t :: ts, c0 :: c1 :: c2 :: cs, h => by
    rw [FreshL] at h ⊢
    exact ⟨Fresh.chg hc hs hl t _ h.1, FreshL.chg hc hs hl ts cs h.2⟩
  | [], _ :: _, h => by rw [FreshL] at h; exact h.elim; all_goals simp
  | _ :: _, [], h => by rw [FreshL] at h; exact h.elim; all_goals simp
  | _ :: _, [_], h => by rw [FreshL] at h; exact h.elim; all_goals simp
  | _ :: _, [_, _], h => by rw [FreshL] at h; exact h.elim; all_goals simp
end
mutual
theorem Fresh.lt {R R' : Nat → Prop} {W : World} (hl : ∀ b, R b → b < W.heap.size → R' b) : ∀ {t : T} {v : Value}, Fresh R W t v → Fresh R' W t v
  | .node k nm kids, v, h => by
    rw [Fresh] at h ⊢
    rcases h with h | ⟨b, cs, hb, hv, ho, h2, hk⟩
    · exact .inl h
    · exact .inr ⟨b, cs, hl b hb (Array.getElem?_eq_some_iff.1 ho).1, hv, ho, h2, FreshL.lt hl hk⟩
theorem FreshL.lt {R R' : Nat → Prop} {W : World} (hl : ∀ b, R b → b < W.heap.size → R' b) : ∀ {l : List T} {cs : List Value}, FreshL R W l cs → FreshL R' W l cs
  | [], [], _ => by rw [FreshL]; trivial
  | t :: ts, c0 :: c1 :: c2 :: cs, h => by
    rw [FreshL] at h ⊢
    exact ⟨Fresh.lt hl h.1, FreshL.lt hl h.2⟩
  | [], _ :: _, h => by rw [FreshL] at h; exact h.elim; all_goals simp
  | _ :: _, [], h => by rw [FreshL] at h; exact h.elim; all_goals simp
  | _ :: _, [_], h => by rw [FreshL] at h; exact h.elim; all_goals simp
  | _ :: _, [_, _], h => by rw [FreshL] at h; exact h.elim; all_goals simp
end
theorem Fresh.agg {R : Nat → Prop} {W : World} {t : T} {v : Value} (h : Fresh R W t v) : ∃ ao cap, v = .agg #[.int .i64 t.kind, .string ⟨t.name.toArray⟩, .slice ao t.kids.length cap] := by
  cases t with
  | node k nm kids =>
    rw [Fresh] at h
    rcases h with ⟨rfl, rfl⟩ | ⟨b, cs, _, rfl, _⟩
    · exact ⟨none, 0, rfl⟩
    · exact ⟨some ⟨b, 0, none⟩, kids.length, rfl⟩
theorem FreshL.at {R : Nat → Prop} {W : World} : ∀ {l : List T} {cs : List Value}, FreshL R W l cs → ∀ {j : Nat} {t : T}, l[j]? = some t → ∃ c0 c1 c2, cs[j * 3]? = some c0 ∧ cs[j * 3 + 1]? = some c1 ∧ cs[j * 3 + 2]? = some c2 ∧ Fresh R W t (.agg #[c0, c1, c2])
  | [], _, _, _, _, h => by simp at h
  | u :: ts, c0 :: c1 :: c2 :: cs, h, 0, t, ht => by
    rw [FreshL] at h
    obtain rfl : u = t := by simpa using ht
    exact ⟨c0, c1, c2, rfl, rfl, rfl, h.1⟩
  | u :: ts, c0 :: c1 :: c2 :: cs, h, j + 1, t, ht => by
    rw [FreshL] at h
    obtain ⟨d0, d1, d2, e0, e1, e2, hf⟩ := FreshL.at h.2 (j := j) (t := t) (by simpa using ht)
    exact ⟨d0, d1, d2, by rw [show (j + 1) * 3 = j * 3 + 1 + 1 + 1 by omega]; simpa using e0, by rw [show (j + 1) * 3 + 1 = j * 3 + 1 + 1 + 1 + 1 by omega]; simpa using e1, by rw [show (j + 1) * 3 + 2 = j * 3 + 2 + 1 + 1 + 1 by omega]; simpa using e2, hf⟩
  | _ :: _, [], h, _, _, _ => by rw [FreshL] at h; exact h.elim; all_goals simp
  | _ :: _, [_], h, _, _, _ => by rw [FreshL] at h; exact h.elim; all_goals simp
  | _ :: _, [_, _], h, _, _, _ => by rw [FreshL] at h; exact h.elim; all_goals simp
theorem Fresh.tree {R : Nat → Prop} {W : World} : ∀ (t : T) (v : Value), Fresh R W t v → IsTree (fun b => R b ∧ b < W.heap.size) W t v := by
  refine kid_induct ?_
  intro t ih v h
  cases t with
  | node k nm kids =>
    rw [Fresh] at h
    rw [IsTree]
    rcases h with ⟨rfl, rfl⟩ | ⟨b, cs, hb, rfl, ho, h2, hk⟩
    · exact ⟨none, 0, rfl, by simp, by rw [IsKids]; trivial⟩
    · refine ⟨some ⟨b, 0, none⟩, kids.length, rfl, by omega, IsKids.mk kids 0 (fun j t ht => ?_)⟩
      obtain ⟨c0, c1, c2, e0, e1, e2, hf⟩ := FreshL.at hk ht
      obtain ⟨ak, capk, e⟩ := hf.agg
      simp at e
      obtain ⟨rfl, rfl, rfl⟩ := e
      rw [Nat.zero_add]
      rw [Array.getElem?_toList] at e0 e1 e2
      exact ⟨b, 0, t.kind, _, _, rfl, ⟨hb, (Array.getElem?_eq_some_iff.1 ho).1⟩, by rw [Nat.zero_add]; exact cell_row ho _ e0, by rw [Nat.zero_add]; exact cell_row ho _ e1, by rw [Nat.zero_add]; exact cell_row ho _ e2, ih t (List.mem_of_getElem? ht) _ hf⟩

set_option maxRecDepth 100000 in
set_option maxHeartbeats 1000000 in
theorem two_any (k : Int) (a0 a1 a2 b0 b1 b2 : Value) (w : World) : Calls Try.prog 82 #[.int .i64 k, .agg #[a0, a1, a2], .agg #[b0, b1, b2]] w fun e w' =>
    e = .returned (.agg #[.int .i64 k, .string ⟨#[]⟩, .slice (some ⟨w.heap.size + 3, 0, none⟩) 2 2]) ∧ Chg Nob w w' ∧ w'.heap[w.heap.size + 3]? = some (.cells #[a0, a1, a2, b0, b1, b2] 37 (0, 0)) := by
  go_enter Try.func82, Try.ntmps82
  go_wp2
  refine bodyPost_ret (v := .agg #[.int .i64 k, .string ⟨#[]⟩, .slice (some ⟨w.heap.size + 3, 0, none⟩) 2 2]) (by simp [results, Try.results82, go_sem]) rfl ⟨rfl, ((((Chg.refl _ _).alloc _).alloc _).alloc _).alloc _, ?_⟩
  have := heap_alloc_new (((w.alloc (Obj.cells #[a0, a1, a2] 37)).alloc (Obj.cells #[b0, b1, b2] 37)).alloc (Obj.cells #[Value.int IntKind.i64 k, Value.string { data := #[] }, Value.slice (some { block := w.heap.size + 1 + 1 + 1, off := 0 }) 2 2] 37)) (Obj.cells #[a0, a1, a2, b0, b1, b2] 37)
  simpa only [World.size_alloc, Nat.add_assoc, Nat.reduceAdd] using this
set_option maxRecDepth 100000 in
set_option maxHeartbeats 1000000 in
theorem one_any (k : Int) (a0 a1 a2 : Value) (w : World) : Calls Try.prog 159 #[.int .i64 k, .agg #[a0, a1, a2]] w fun e w' =>
    e = .returned (.agg #[.int .i64 k, .string ⟨#[]⟩, .slice (some ⟨w.heap.size + 2, 0, none⟩) 1 1]) ∧ Chg Nob w w' ∧ w'.heap[w.heap.size + 2]? = some (.cells #[a0, a1, a2] 37 (0, 0)) := by
  go_enter Try.func159, Try.ntmps159
  go_wp2
  refine bodyPost_ret (v := .agg #[.int .i64 k, .string ⟨#[]⟩, .slice (some ⟨w.heap.size + 2, 0, none⟩) 1 1]) (by simp [results, Try.results159, go_sem]) rfl ⟨rfl, (((Chg.refl _ _).alloc _).alloc _).alloc _, ?_⟩
  have := heap_alloc_new ((w.alloc (Obj.cells #[a0, a1, a2] 37)).alloc (Obj.cells #[Value.int IntKind.i64 k, Value.string { data := #[] }, Value.slice (some { block := w.heap.size + 1 + 1, off := 0 }) 1 1] 37)) (Obj.cells #[a0, a1, a2] 37)
  simpa only [World.size_alloc, Nat.add_assoc, Nat.reduceAdd] using this
end Go.Proofs.Ytkgfdgfhpdhhaaa
