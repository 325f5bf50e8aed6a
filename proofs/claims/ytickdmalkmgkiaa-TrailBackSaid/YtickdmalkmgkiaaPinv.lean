/- What the parsing of a trail keeps from step to step. Conditions: as each theorem states. -/
import Derived.Test.YtickdmalkmgkiaaPplain
import Derived.Test.YtickdmalkmgkiaaPcatch
import Derived.Test.YtickdmalkmgkiaaTawake
import Derived.Test.YtickdmalkmgkiaaLawTwrites
import Derived.Test.YtickdmalkmgkiaaRtext
import Derived.Deep.DeepAppendWide
namespace Go.Proofs.Ytickdmalkmgkiaa
open Go.ChangeShapes Go.WideShapes Go.ChangeAt Go.RowKit

/-- Bytes that lie in the world. -/
def Bytes (w : World) (v : Value) (l : List UInt8) : Prop :=
  l.length ≤ 9223372036854775807 ∧ ((l = [] ∧ v = .slice none 0 0) ∨ ∃ a cp, v = .slice (some a) l.length cp ∧ l.length ≤ cp ∧ ∀ j u, (l.map bv)[j]? = some u → w.cell? (a.add j) = some u)
theorem Bytes.chg {w w' : World} {v : Value} {l : List UInt8} (h : Bytes w v l) (hc : Chg Nob w w') : Bytes w' v l := by
  obtain ⟨h0, h | ⟨a, cp, h1, h3, h2⟩⟩ := h
  · exact ⟨h0, .inl h⟩
  · exact ⟨h0, .inr ⟨a, cp, h1, h3, fun j u hj => hc.cell' (h2 j u hj) (fun e => e)⟩⟩
theorem Bytes.conv {w : World} {v : Value} {l : List UInt8} (h : Bytes w v l) : (convert 26 9 v).run Try.prog w = .ok (.string ⟨l.toArray⟩) w := by
  obtain ⟨_, ⟨rfl, rfl⟩ | ⟨a, cp, rfl, _, hc⟩⟩ := h
  · exact trailWrites.nil_conv w
  · refine run_convert_bytes_back (P := Try.prog) w 26 9 5 _ cp l Try.underlying26 Try.underlying5 Try.underlying9 (fun j hj => ?_)
    exact hc j _ (by rw [List.getElem?_map, List.getElem?_eq_getElem hj]; rfl)

def scells (x : Step) : List Value := [.int .i64 x.1, .int .i64 x.2.1, .int .i64 x.2.2.1, .int .i64 x.2.2.2]
theorem scells_len : ∀ L : List Step, (L.flatMap scells).length = L.length * 4
  | [] => rfl
  | x :: L => by
    rw [List.flatMap_cons, List.length_append, scells_len L, List.length_cons]
    show 4 + _ = _
    omega
theorem scells_at : ∀ (L : List Step) (i : Nat) (x : Step) (j : Nat) (u : Value), L[i]? = some x → (scells x)[j]? = some u → (L.flatMap scells)[i * 4 + j]? = some u
  | [], _, _, _, _, h, _ => by simp at h
  | y :: L, 0, x, j, u, h, hu => by
    simp at h
    subst h
    rw [List.flatMap_cons, Nat.zero_mul, Nat.zero_add, List.getElem?_append_left (List.getElem?_eq_some_iff.1 hu).1]
    exact hu
  | y :: L, i + 1, x, j, u, h, hu => by
    rw [List.flatMap_cons, List.getElem?_append_right (by show 4 ≤ _; omega)]
    have : (i + 1) * 4 + j - (scells y).length = i * 4 + j := by show _ - 4 = _; omega
    rw [this]
    exact scells_at L i x j u (by simpa using h) hu

/-- What the parsing keeps: its results' variables, its reader, the steps so far. -/
structure PInv (B : Nat) (w : World) (s : ByteArray) (p : Nat) (c : Int) (M : List Step) (v : Value) (wr : World) : Prop where
  t : wr.heap[B]? = some (.cells #[v, .int .i64 c] 24)
  e : wr.heap[B + 1]? = some (.cells #[.int .i64 0] 27)
  r : isRd wr (B + 2) s p
  pv : wr.heap[B + 3]? = some (.cells #[.pointer (some ⟨B + 2, 0, none⟩)] 40)
  row : wr.ownsRow B 83 4 v M.length (M.flatMap scells)
  chg : Chg Nob w wr
  size : B = w.heap.size

section
variable {B : Nat} {w wr w' : World} {s : ByteArray} {p p' : Nat} {c : Int} {M : List Step} {v : Value}
theorem PInv.nob (h : PInv B w s p c M v wr) (hc : Chg Nob wr w') : PInv B w s p c M v w' :=
  ⟨hc.at h.t (fun e => e), hc.at h.e (fun e => e), h.r.chg hc (fun e => e), hc.at h.pv (fun e => e), ownsRow_chg h.row hc (fun _ _ e => e), h.chg.trans1 hc, h.size⟩
theorem PInv.get (h : PInv B w s p c M v wr) (hc : Chg (At1 (B + 2)) wr w') (hr : isRd w' (B + 2) s p') : PInv B w s p' c M v w' :=
  ⟨hc.at h.t (fun e => by have e : B = B + 2 := e; omega), hc.at h.e (fun e => by have e : B + 1 = B + 2 := e; omega), hr, hc.at h.pv (fun e => by have e : B + 3 = B + 2 := e; omega),
    ownsRow_chg h.row hc (fun k hk e => (ownsRow_ne_type h.row h.r.2.2 (by decide) k hk).2 e), h.chg.trans hc (fun i hi e => by have e : i = B + 2 := e; have := h.size; omega), h.size⟩
theorem PInv.thrown (h : PInv B w s p c M v wr) (hc : Chg (At1 (B + 2)) wr w') : ∃ v c e0, w'.heap[B]? = some (.cells #[v, c] 24) ∧ w'.heap[B + 1]? = some (.cells #[e0] 27) ∧ Chg Nob w w' :=
  ⟨_, _, _, hc.at h.t (fun e => by have e : B = B + 2 := e; omega), hc.at h.e (fun e => by have e : B + 1 = B + 2 := e; omega), h.chg.trans hc (fun i hi e => by have e : i = B + 2 := e; have := h.size; omega)⟩
theorem PInv.other {b : Nat} (h : PInv B w s p c M v wr) (hc : Chg (At1 b) wr w') (hb : B + 3 < b) (hrow : ∀ k, v.ownBlock = some k → k ≠ b) : PInv B w s p c M v w' :=
  ⟨hc.at h.t (fun e => by have e : B = b := e; omega), hc.at h.e (fun e => by have e : B + 1 = b := e; omega), h.r.chg hc (fun e => by have e : B + 2 = b := e; omega), hc.at h.pv (fun e => by have e : B + 3 = b := e; omega),
    ownsRow_chg h.row hc (fun k hk e => hrow k hk e), h.chg.trans hc (fun i hi e => by have e : i = b := e; have := h.size; omega), h.size⟩
theorem PInv.setc (h : PInv B w s p c M v wr) (c' : Int) : PInv B w s p c' M v (wr.setCell ⟨B, 1, none⟩ (.int .i64 c')) := by
  have hc : Chg (At1 B) wr (wr.setCell ⟨B, 1, none⟩ (.int .i64 c')) := (Chg.refl (At1 B) wr).setCell (p := ⟨B, 1, none⟩) (fun _ => rfl) _
  exact ⟨block_two_set1 h.t, hc.at h.e (fun e => by have e : B + 1 = B := e; omega), h.r.chg hc (fun e => by have e : B + 2 = B := e; omega), hc.at h.pv (fun e => by have e : B + 3 = B := e; omega),
    ownsRow_chg h.row hc (fun k hk e => (ownsRow_ne_type h.row h.t (by decide) k hk).2 e), h.chg.trans hc (fun i hi e => by have e : i = B := e; have := h.size; omega), h.size⟩
theorem PInv.app (h : PInv B w s p c M v wr) {v' : Value} {x : Step} (hown : w'.ownsRow B 83 4 v' (M.length + 1) (M.flatMap scells ++ scells x)) (hg : wr.grownBy w' v.ownBlock) :
    PInv B w s p c (M ++ [x]) v' (w'.setCell ⟨B, 0, none⟩ v') := by
  have hc : Chg (fun k => v.ownBlock = some k) wr w' := (Chg.refl _ _).grown hg (fun k hk _ => hk)
  have hne : ∀ b cs t m, wr.heap[b]? = some (.cells cs t m) → (83 : Nat) ≠ t → ¬ v.ownBlock = some b := fun b cs t m hb ht e => (ownsRow_ne_type h.row hb ht b e).2 rfl
  have ht' := hc.at h.t (hne _ _ _ _ h.t (by decide))
  have he' := hc.at h.e (hne _ _ _ _ h.e (by decide))
  have hr' := h.r.chg hc (hne _ _ _ _ h.r.2.2 (by decide))
  have hp' := hc.at h.pv (hne _ _ _ _ h.pv (by decide))
  have hs : Chg (At1 B) w' (w'.setCell ⟨B, 0, none⟩ v') := (Chg.refl (At1 B) w').setCell (p := ⟨B, 0, none⟩) (fun _ => rfl) _
  refine ⟨block_two_set0 ht', hs.at he' (fun e => by have e : B + 1 = B := e; omega), hr'.chg hs (fun e => by have e : B + 2 = B := e; omega), hs.at hp' (fun e => by have e : B + 3 = B := e; omega), ?_, ?_, h.size⟩
  · rw [List.flatMap_append, List.length_append]
    simp only [List.flatMap_cons, List.flatMap_nil, List.append_nil, List.length_cons, List.length_nil, Nat.zero_add]
    exact ownsRow_chg hown hs (fun k hk e => (ownsRow_ne_type hown ht' (by decide) k hk).2 e)
  · refine (h.chg.grown hg (fun k hk hlt => ?_)).trans hs (fun i hi e => by have e : i = B := e; have := h.size; omega)
    have h1 := (h.row.lt k hk).1
    have := h.size
    omega
end

theorem Try.info83 : (Try.prog.info? 83).map (fun i => (i.zero, i.size, i.bytes)) = some (some (.agg #[.int .i64 0, .int .i64 0, .int .i64 0, .int .i64 0]), 4, 32) := by kernel_rfl
theorem info83_parts : ∃ i, Try.prog.info? 83 = some i ∧ i.zero = some (.agg #[.int .i64 0, .int .i64 0, .int .i64 0, .int .i64 0]) ∧ i.size = 4 ∧ i.bytes = 32 := by
  have h := Try.info83
  cases hi : Try.prog.info? 83 with
  | none => rw [hi] at h; simp at h
  | some i => rw [hi] at h; simp at h; exact ⟨i, rfl, h.1, h.2.1, h.2.2⟩
/-- A step behind a row of steps. -/
theorem append_step {B : Nat} {w : World} {v : Value} {M : List Step} {x : Step} {g : Nat} (h : w.ownsRow B 83 4 v M.length (M.flatMap scells)) (hB : B ≤ w.heap.size) (hM : M.length ≤ 100000) (hg : ∀ j u, (scells x)[j]? = some u → w.cell? ⟨g, j, none⟩ = some u) :
    ∃ v' w', (Builtin.append_ #[22, 22] 22 #[v, .slice (some ⟨g, 0, none⟩) 1 1]).run Try.prog w = .ok v' w' ∧ w'.ownsRow B 83 4 v' (M.length + 1) (M.flatMap scells ++ scells x) ∧ w.grownBy w' v.ownBlock := by
  obtain ⟨i, hi, hz, hs, hb⟩ := info83_parts
  obtain ⟨v', w', h1, h2, h3, _⟩ := run_append_own_wide (P := Try.prog) w B 22 22 83 i _ 4 32 Try.underlying22 hi hz hs hb rfl (by decide) v M.length _ h ⟨g, 0, none⟩ 1 1 (scells x) rfl
    (fun j u hj => by rw [Go.WideShapes.add_plain, Nat.zero_add]; exact hg j u hj) (fun u hu => by simp [scells] at hu; rcases hu with rfl | rfl | rfl | rfl <;> rfl) (by unfold maxLen; omega) (by omega) hB
  exact ⟨v', w', h1, h2, h3⟩

/-- A row of steps is a trail. -/
theorem trail_of_row {B : Nat} {w : World} {v : Value} {M : List Step} (h : w.ownsRow B 83 4 v M.length (M.flatMap scells)) (hl : M.length ≤ 9223372036854775807) : ∃ ao cap, v = .slice ao M.length cap ∧ IsTrail w ao M := by
  rcases h.2 with ⟨rfl, h0⟩ | ⟨g, cap, cur, rfl, hb, hg, rest⟩
  · refine ⟨none, 0, by rw [h0], hl, fun i x hx => ?_⟩
    have := (List.getElem?_eq_some_iff.1 hx).1
    omega
  · refine ⟨_, cap, rfl, hl, fun i x hx => ⟨g, 0, rfl, (Array.getElem?_eq_some_iff.1 hg).1, ?_, ?_, ?_, ?_⟩⟩
    · have := h.cells rfl (i * 4 + 0) _ (scells_at M i x 0 _ hx rfl); simpa [Go.WideShapes.add_plain] using this
    · have := h.cells rfl (i * 4 + 1) _ (scells_at M i x 1 _ hx rfl); simpa [Go.WideShapes.add_plain] using this
    · have := h.cells rfl (i * 4 + 2) _ (scells_at M i x 2 _ hx rfl); simpa [Go.WideShapes.add_plain] using this
    · have := h.cells rfl (i * 4 + 3) _ (scells_at M i x 3 _ hx rfl); simpa [Go.WideShapes.add_plain] using this

end Go.Proofs.Ytickdmalkmgkiaa
