/- The law CodecLines, where what it reads is of bulk at most 1048576: whatever the text and the number, it returns true. -/
import Derived.Test.YtickdmalkmgkiaaRlines
import Derived.Test.YtickdmalkmgkiaaPcatch
import Derived.ProofKit
import Derived.OpenShut
import Derived.ShutString
import Derived.SizedLaws
import Derived.JoinedCond
namespace Go.Proofs.Ytickdmalkmgkiaa.codecLines
open Go.ChangeShapes Go.WideShapes Go.RowKit Go.Shelf
open Go.ChangeMaps (open_string shut_string)
attribute [local go_sem] Oper.semAt_some

theorem own : ownKnob Try.prog.godebug = none := by kernel_rfl
theorem laidOut : laidOutB Try.prog = true := by kernel_rfl

/-- What the law has laid. -/
structure LF (w : World) (wv nv sb : Nat) (s : List UInt8) (nn : Int) (vw : Value) (W : World) : Prop where
  res : W.heap[w.heap.size]? = some (.cells #[.bool false] 4 (0, 0))
  want : W.heap[wv]? = some (.cells #[vw] 32 (0, 0))
  num : W.heap[nv]? = some (.cells #[.int .i64 nn] 3 (0, 0))
  box : W.heap[sb]? = some (.cells #[.string ⟨s.toArray⟩] 9 (0, 0))
  row : W.ownsRow w.heap.size 9 1 vw (linesL [] s).length ((linesL [] s).map strV)
  chg : Chg Nob w W
  l1 : w.heap.size < wv
  l2 : wv < sb
  l3 : sb < nv

section
variable {w W W' : World} {wv nv sb : Nat} {s : List UInt8} {nn : Int} {vw : Value}
/-- What is changed are blocks that hold no cells, beyond those that the law began with. -/
theorem LF.grown {row : Option Nat} (h : LF w wv nv sb s nn vw W) (hg : W.grownBy W' row) (hr : ∀ r, row = some r → w.heap.size ≤ r ∧ ∃ o : Obj, W.heap[r]? = some o ∧ o.isCells = false) : LF w wv nv sb s nn vw W' := by
  have hc : Chg (fun k => row = some k) W W' := (Chg.refl _ _).grown hg (fun k hk _ => hk)
  have hn : ∀ k cs t m, W.heap[k]? = some (.cells cs t m) → ¬ row = some k := fun k cs t m hk e => by
    obtain ⟨_, o, ho, hcells⟩ := hr k e
    rw [hk] at ho; cases ho; cases hcells
  exact ⟨hc.at h.res (hn _ _ _ _ h.res), hc.at h.want (hn _ _ _ _ h.want), hc.at h.num (hn _ _ _ _ h.num), hc.at h.box (hn _ _ _ _ h.box),
    ownsRow_chg h.row hc (fun k hk => by obtain ⟨cs, m, hb⟩ := ownsRow_block h.row k hk; exact hn _ _ _ _ hb),
    h.chg.grown hg (fun k hk hlt => by have := (hr k hk).1; omega), h.l1, h.l2, h.l3⟩
/-- A later block of ints is written. -/
theorem LF.wrote {b : Nat} {cs : Array Value} (h : LF w wv nv sb s nn vw W) (hb : W.heap[b]? = some (.cells cs 3 (0, 0))) (hlt : nv < b) (v : Value) : LF w wv nv sb s nn vw (W.setCell ⟨b, 0, none⟩ v) := by
  have hc : Chg (At1 b) W (W.setCell ⟨b, 0, none⟩ v) := (Chg.refl (At1 b) W).setCell (p := ⟨b, 0, none⟩) (fun _ => rfl) v
  have := h.l1
  have := h.l2
  have := h.l3
  exact ⟨hc.at h.res (fun e => by have e : w.heap.size = b := e; omega), hc.at h.want (fun e => by have e : wv = b := e; omega), hc.at h.num (fun e => by have e : nv = b := e; omega), hc.at h.box (fun e => by have e : sb = b := e; omega),
    ownsRow_chg h.row hc (fun k hk e => (ownsRow_ne_type h.row hb (by decide) k hk).2 e), h.chg.trans hc (fun i hi e => by have e : i = b := e; omega), h.l1, h.l2, h.l3⟩
theorem LF.nob (h : LF w wv nv sb s nn vw W) (hc : Chg Nob W W') : LF w wv nv sb s nn vw W' :=
  ⟨hc.at h.res (fun e => e), hc.at h.want (fun e => e), hc.at h.num (fun e => e), hc.at h.box (fun e => e), ownsRow_chg h.row hc (fun _ _ e => e), h.chg.trans1 hc, h.l1, h.l2, h.l3⟩
/-- The text that is wanted next. -/
theorem LF.text (h : LF w wv nv sb s nn vw W) {k : Nat} {x : List UInt8} (hx : (linesL [] s)[k]? = some x) : ∃ g cap, vw = .slice (some ⟨g, 0, none⟩) (linesL [] s).length cap ∧ W.cell? ⟨g, k, none⟩ = some (.string ⟨x.toArray⟩) := by
  have hlt := (List.getElem?_eq_some_iff.1 hx).1
  obtain ⟨g, cap, hv, hc⟩ := ownsRow_some h.row (by omega)
  refine ⟨g, cap, hv, ?_⟩
  have := hc k (strV x) (by rw [List.getElem?_map, hx]; rfl)
  rw [Go.WideShapes.add_plain, Nat.zero_add] at this
  exact this
end

/-- Between two rounds of the inner loop. -/
def LI (w : World) (wv nv sb : Nat) (s : List UInt8) (nn : Int) (vw : Value) (rv kv r : Nat) (ds : List Nat) (pre : List (List UInt8)) (W : World) : Prop :=
  LF w wv nv sb s nn vw W ∧ W.heap[rv]? = some (.cells #[.int .i64 r] 3 (0, 0)) ∧ W.heap[kv]? = some (.cells #[.int .i64 pre.length] 3 (0, 0)) ∧ (∀ d ∈ ds, W.heap[d]? = some (.deferred (some [])))
theorem LI.own {w : World} {wv nv sb : Nat} {s : List UInt8} {nn : Int} {vw : Value} {rv kv r B : Nat} {ds : List Nat} (hB : w.heap.size ≤ B) (hds : ∀ d ∈ ds, d < B) : OwnFrom B (LI w wv nv sb s nn vw rv kv r ds) := by
  intro pre W W' row hs hg hr
  obtain ⟨h1, h2, h3, h4⟩ := hs
  have hc : Chg (fun k => row = some k) W W' := (Chg.refl _ _).grown hg (fun k hk _ => hk)
  have hn : ∀ k cs t m, W.heap[k]? = some (.cells cs t m) → ¬ row = some k := fun k cs t m hk e => by
    obtain ⟨_, o, ho, hcells⟩ := hr k e
    rw [hk] at ho; cases ho; cases hcells
  exact ⟨h1.grown hg (fun r e => ⟨Nat.le_trans hB (hr r e).1, (hr r e).2⟩), hc.at h2 (hn _ _ _ _ h2), hc.at h3 (hn _ _ _ _ h3), fun d hd => hc.at (h4 d hd) (fun e => by have := (hr d e).1; have := hds d hd; omega)⟩

theorem fin5 {n : Nat} {w W : World} {D0 D1 : Nat} {tm : Array Value} {b0 : Value} (q1 : W.heap[w.heap.size]? = some (.cells #[b0] 4 (0, 0))) (q5 : Chg Nob w W) (hD0 : w.heap.size < D0) (hD : D0 < D1) (hK0 : W.heap[D0]? = some (.deferred (some []))) (hK1 : W.heap[D1]? = some (.deferred (some [])))
    (h2 : tm[4]? = some (.pointer (some ⟨w.heap.size, 0, none⟩))) :
    bodyPostM Fence.wide n Try.prog Try.f5 (fun e w' => e = Ending.returned (.bool true) ∧ Below w.heap.size w w') Exit.ret { tmps := tm, defers := [{ target := .collected D1, args := #[] }, { target := .collected D0, args := #[] }] } (W.setCell ⟨w.heap.size, 0, none⟩ (.bool true)) := by
  have hk := KeepsOthers.setCell W ⟨w.heap.size, 0, none⟩ (.bool true)
  have hK0' := hk.same D0 _ hK0 rfl
  have hK1' := hk.same D1 _ hK1 rfl
  have hc := cell_row (block_one_set (u := .bool true) q1) 0 (v := .bool true) rfl
  have hset : Chg Nob w (W.setCell ⟨w.heap.size, 0, none⟩ (.bool true)) := q5.setCell (p := ⟨w.heap.size, 0, none⟩) (fun h => by have h : w.heap.size < w.heap.size := h; omega) _
  have hc5 := cell_kept hc (grownBy_putObj' _ D1 (.deferred none)) (fun r e => by cases e; exact ⟨_, hK1', rfl⟩)
  have hK0'' : ((W.setCell ⟨w.heap.size, 0, none⟩ (.bool true)).putObj D1 (.deferred none)).heap[D0]? = some (.deferred (some [])) := (World.putObj_heap_other (by omega)).trans hK0'
  have hc6 := cell_kept hc5 (grownBy_putObj' _ D0 (.deferred none)) (fun r e => by cases e; exact ⟨_, hK0'', rfl⟩)
  refine ⟨by simp, .inl ⟨_, _, rfl, run_takeDeferred hK1', ?_⟩⟩
  refine ⟨by simp, .inl ⟨_, _, rfl, run_takeDeferred hK0'', ?_⟩⟩
  refine ⟨.bool true, ?_, rfl, (hset.toBelow.trans (belowK_b (w := w) (Nat.le_refl _) _ D1 _ _ (by omega) hK1' rfl rfl)).trans (belowK_b (w := w) (Nat.le_refl _) _ D0 _ _ (by omega) hK0'' rfl rfl)⟩
  simp [results, Try.results5, go_sem, hc6, h2]

theorem inBlock_leave {id : Nat} {Q : Exit → Act → World → Prop} {e : Exit} {a : Act} {W : World} (he : e = .normal ∨ e = .exit id) (h : Exit.inBlock id Q .normal a W) : Exit.inBlock id Q e a W := by
  rcases he with rfl | rfl
  · exact h
  · simpa [Exit.inBlock] using h
theorem linesL_len' : ∀ (l cur : List UInt8), (linesL cur l).length ≤ l.length + (if cur = [] then 0 else 1)
  | [], cur => by
    rw [linesL]
    split <;> simp_all
  | x :: l, cur => by
    rw [linesL]
    by_cases hx : x = 10
    · rw [if_pos hx]
      have := linesL_len' l []
      simp only [if_true] at this
      simp only [List.length_cons]
      split <;> omega
    · rw [if_neg hx]
      have := linesL_len' l (cur ++ [x])
      rw [if_neg (by simp)] at this
      simp only [List.length_cons]
      split <;> omega
theorem linesL_len (l : List UInt8) : (linesL [] l).length ≤ l.length := by
  have := linesL_len' l []
  simpa using this

set_option maxRecDepth 100000 in
set_option maxHeartbeats 4000000 in
theorem walk_in (n : Nat) (hn : 4 ≤ n) (s : List UInt8) (hs : s.length ≤ 1000000000) (m : Int) (hm0 : -9223372036854775808 ≤ m) (hm1 : m ≤ 9223372036854775807) (w : World) :
    CallsIn Fence.wide n Try.prog 5 #[.string ⟨s.toArray⟩, .int .i64 m] w fun e w' => e = .returned (.bool true) ∧ Below w.heap.size w w' := by
  have h1 : 1 ≤ n := by omega
  refine callsIn_of_wp_marks Try.func5 rfl trivial ?_ rfl
  simp only [Try.ntmps5, List.size_toArray, List.length_cons, List.length_nil, Nat.reduceAdd, Nat.reduceSub, Array.replicate_succ, Array.replicate_zero, List.push_toArray, List.append_toArray, List.nil_append, List.cons_append]
  gi_wp2
  refine ⟨trivial, (callsIn_wide.2 (known_any _)).mono ?_⟩
  rintro e w1 ⟨rfl, hc1⟩
  gi_wp2
  refine ⟨trivial, (callsIn_wide.2 (rlines_any s hs _)).mono ?_⟩
  rintro e w2 ⟨hc2, vw, rfl, hrow⟩
  obtain ⟨ao, cp, rfl⟩ := ownsRow_shape hrow
  gi_wp2
  refine ⟨trivial, (callsIn_wide.2 (lines_any _ _)).mono ?_⟩
  rintro e w3 ⟨rfl, rfl⟩
  gi_wp2
  obtain ⟨nn, hnn⟩ : ∃ nn, nn = ((if m < 0 then -(m + 1) else m) % 6) := ⟨_, rfl⟩
  have hpk := fun W => pick_any m 6 W hm0 hm1 (by decide) (by decide)
  rw [← hnn] at hpk
  have hn05 : 0 ≤ nn ∧ nn < 6 := by omega
  clear hnn
  refine ⟨trivial, (callsIn_wide.2 (hpk _)).mono ?_⟩
  clear hpk
  rintro e w4 ⟨rfl, rfl⟩
  gi_wp2
  have g0 := heap_alloc_new w2 (.cells #[.slice ao (linesL [] s).length cp] 32)
  have g1 := heap_alloc_new (w2.alloc (.cells #[.slice ao (linesL [] s).length cp] 32)) (.cells #[.string ⟨s.toArray⟩] 9)
  have g2 := heap_alloc_new ((w2.alloc (.cells #[.slice ao (linesL [] s).length cp] 32)).alloc (.cells #[.string ⟨s.toArray⟩] 9)) (.cells #[.int .i64 nn] 3)
  have g3 := heap_alloc_new (((w2.alloc (.cells #[.slice ao (linesL [] s).length cp] 32)).alloc (.cells #[.string ⟨s.toArray⟩] 9)).alloc (.cells #[.int .i64 nn] 3)) (.cells #[.int .i64 0] 3)
  simp only [World.size_alloc] at g1 g2 g3
  have hsz : w.heap.size + 1 ≤ w2.heap.size := by have h1 := hc1.size; have h2 := hc2.size; rw [World.size_alloc] at h1; omega
  have hF : LF w w2.heap.size (w2.heap.size + 1 + 1) (w2.heap.size + 1) s nn (.slice ao (linesL [] s).length cp) ((((w2.alloc (.cells #[.slice ao (linesL [] s).length cp] 32)).alloc (.cells #[.string ⟨s.toArray⟩] 9)).alloc (.cells #[.int .i64 nn] 3)).alloc (.cells #[.int .i64 0] 3)) := by
    have hc : Chg Nob w2 ((((w2.alloc (.cells #[.slice ao (linesL [] s).length cp] 32)).alloc (.cells #[.string ⟨s.toArray⟩] 9)).alloc (.cells #[.int .i64 nn] 3)).alloc (.cells #[.int .i64 0] 3)) := ((((Chg.refl _ _).alloc _).alloc _).alloc _).alloc _
    refine ⟨((hc1.trans1 hc2).trans1 hc).at (heap_alloc_new w _) (fun e => e), (((Chg.refl Nob _).alloc _).alloc _).alloc _ |>.at g0 (fun e => e), (Chg.refl Nob _).alloc _ |>.at g2 (fun e => e), ((Chg.refl Nob _).alloc _).alloc _ |>.at g1 (fun e => e), ?_, ((((Chg.refl Nob w).alloc _).trans1 hc1).trans1 hc2).trans1 hc, by omega, by omega, by omega⟩
    exact ownsRow_chg (row_le hrow (by have := hc1.size; rw [World.size_alloc] at this; omega)) hc (fun _ _ e => e)
  have hz : ((((w2.alloc (.cells #[.slice ao (linesL [] s).length cp] 32)).alloc (.cells #[.string ⟨s.toArray⟩] 9)).alloc (.cells #[.int .i64 nn] 3)).alloc (.cells #[.int .i64 0] 3)).heap.size = w2.heap.size + 1 + 1 + 1 + 1 := by simp
  clear g0 g1 g2 hc1 hc2 hrow
  generalize ((((w2.alloc (.cells #[.slice ao (linesL [] s).length cp] 32)).alloc (.cells #[.string ⟨s.toArray⟩] 9)).alloc (.cells #[.int .i64 nn] 3)).alloc (.cells #[.int .i64 0] 3)) = W4 at *
  generalize w2.heap.size = b at *
  clear w1 w2
  refine wpIn_loop_rounds 3 ?_
  rw [roundsIn_succ]
  have x0 := cell_row g3 0 (v := .int .i64 0) rfl
  gi_wp2
  have HL0 : Hid (LI w b (b + 1 + 1) (b + 1) s nn (.slice ao (linesL [] s).length cp) (b + 1 + 1 + 1) (b + 1 + 1 + 1 + 1) 0 [] [] (W4.alloc (.cells #[.int .i64 0] 3))) := by
    have ha : Chg Nob W4 (W4.alloc (.cells #[.int .i64 0] 3)) := (Chg.refl _ _).alloc _
    refine ⟨hF.nob ha, ha.at g3 (fun e => e), ?_, by simp⟩
    rw [← hz]
    exact heap_alloc_new W4 _
  have hzw : (W4.alloc (.cells #[.int .i64 0] 3)).heap.size = b + 1 + 1 + 1 + 1 + 1 := by rw [World.size_alloc, hz]
  have Hord : Hid (w.heap.size + 1 ≤ b ∧ (W4.alloc (.cells #[.int .i64 0] 3)).heap.size = b + 1 + 1 + 1 + 1 + 1) := ⟨hsz, hzw⟩
  clear hF g3 x0 hz hzw hsz
  generalize W4.alloc (.cells #[.int .i64 0] 3) = W5 at *
  refine wpIn_mono (Q := fun e a W' => (e = .normal ∨ e = .exit 2) ∧ ∃ (D : Nat) (pre : List (List UInt8)), a = { tmps := #[.string ⟨s.toArray⟩, .int .i64 m, undef, undef, .pointer (some ⟨w.heap.size, 0, none⟩), .pointer (some ⟨b, 0, none⟩), Value.func (Fn.func 51) #[] #[Value.pointer (some ⟨b + 1, 0, none⟩)], .pointer (some ⟨b + 1 + 1, 0, none⟩), .pointer (some ⟨b + 1 + 1 + 1, 0, none⟩), .pointer (some ⟨b + 1 + 1 + 1 + 1, 0, none⟩), undef, .bool true, .bool false, .string ⟨s.toArray⟩, .slice ao (linesL [] s).length cp, .string ⟨s.toArray⟩, Value.func (Fn.func 51) #[] #[Value.pointer (some ⟨b + 1, 0, none⟩)], .int .i64 m, .int .i64 nn, .int .i64 0, .bool true, undef, undef, Value.func (Fn.func 51) #[] #[Value.pointer (some ⟨b + 1, 0, none⟩)], undef, undef, undef, undef, undef, undef, undef, undef, undef, undef, undef, undef, undef, undef, undef, undef, undef, undef, undef, undef, undef, undef, undef, undef, undef, undef, undef, undef, undef, undef, undef], defers := { target := .collected D, args := #[] } :: [] } ∧ W5.heap.size ≤ D ∧ W'.heap[D]? = some (.deferred (some [])) ∧ LI w b (b + 1 + 1) (b + 1) s nn (.slice ao (linesL [] s).length cp) (b + 1 + 1 + 1) (b + 1 + 1 + 1 + 1) 0 [] pre W' ∧ (0 = 1 → pre.length = (linesL [] s).length)) ?range0 ?rest0
  case range0 =>
    refine wpIn_rangeFunc_ownF rfl h1 (gf := 51) (lb := #[.pointer (some ⟨b + 1, 0, none⟩)]) rfl trivial (enters_of Try.func51 (by kernel_rfl) rfl)
      (lines_stops (n - 1) (by omega) (b + 1) s (by omega) _ (cell_row HL0.out.1.box 0 rfl) (Array.getElem?_eq_some_iff.1 HL0.out.1.box).1) (fun _ _ => trivial) (fun _ _ _ _ _ _ _ _ => trivial) (Below.refl _ _) (fun _ => rfl)
      (LI w b (b + 1 + 1) (b + 1) s nn (.slice ao (linesL [] s).length cp) (b + 1 + 1 + 1) (b + 1 + 1 + 1 + 1) 0 []) (fun c pre W => (c = .ret ∧ ¬ pre <+: linesL [] s) ∨ (c = .exit 2 ∧ 0 = 0 ∧ LI w b (b + 1 + 1) (b + 1) s nn (.slice ao (linesL [] s).length cp) (b + 1 + 1 + 1) (b + 1 + 1 + 1 + 1) 0 [] pre W))
      (LI.own (by have := Hord.out; omega) (by intro d hd; have := Hord.out; simp at hd; try omega)) (fun c pre W W' row hs hg hr => hs.imp id (fun h => ⟨h.1, h.2.1, LI.own (by have := Hord.out; omega) (by intro d hd; have := Hord.out; simp at hd; try omega) pre W W' row h.2.2 hg hr⟩)) HL0.out
      (fun x => { tmps := #[.string ⟨s.toArray⟩, .int .i64 m, undef, undef, .pointer (some ⟨w.heap.size, 0, none⟩), .pointer (some ⟨b, 0, none⟩), Value.func (Fn.func 51) #[] #[Value.pointer (some ⟨b + 1, 0, none⟩)], .pointer (some ⟨b + 1 + 1, 0, none⟩), .pointer (some ⟨b + 1 + 1 + 1, 0, none⟩), .pointer (some ⟨b + 1 + 1 + 1 + 1, 0, none⟩), .string ⟨x.toArray⟩, .bool true, .bool false, .string ⟨s.toArray⟩, .slice ao (linesL [] s).length cp, .string ⟨s.toArray⟩, Value.func (Fn.func 51) #[] #[Value.pointer (some ⟨b + 1, 0, none⟩)], .int .i64 m, .int .i64 nn, .int .i64 0, .bool true, undef, undef, Value.func (Fn.func 51) #[] #[Value.pointer (some ⟨b + 1, 0, none⟩)], .string ⟨x.toArray⟩, undef, undef, undef, undef, undef, undef, undef, undef, undef, undef, undef, undef, undef, undef, undef, undef, undef, undef, undef, undef, undef, undef, undef, undef, undef, undef, undef, undef, undef, undef], defers := [] }) ?assign ?body ?done ?stop
    case assign =>
      intro l' x W K hK
      gi_wp2
      exact hK
    case body =>
      rintro l' pre x W hL hlen
      have HL := Lib.hid hL
      obtain ⟨y, hy⟩ : ∃ y, (linesL [] s)[pre.length]? = some y := ⟨_, List.getElem?_eq_getElem hlen⟩
      obtain ⟨g, cap, hv, hyc⟩ := hL.1.text hy
      cases hv
      have z0 := cell_row hL.1.want 0 (v := .slice (some ⟨g, 0, none⟩) (linesL [] s).length cp) rfl
      have z1 := cell_row hL.2.1 0 (v := .int .i64 0) rfl
      have z2 := cell_row hL.2.2.1 0 (v := .int .i64 pre.length) rfl
      have z3 := cell_row hL.1.num 0 (v := .int .i64 nn) rfl
      have z4 := cell_row hL.1.res 0 (v := .bool false) rfl
      have z5 : W.frozen? ⟨w.heap.size, 0, none⟩ = false := by unfold World.frozen?; simp [hL.1.res]
      have z6 : W.frozen? ⟨b + 1 + 1 + 1 + 1, 0, none⟩ = false := by unfold World.frozen?; simp [hL.2.2.1]
      have hki : (pre.length : Int) < ((linesL [] s).length : Int) := by omega
      have hk0 : (0 : Int) ≤ (pre.length : Int) := by omega
      have hNm : (linesL [] s).length ≤ s.length := linesL_len s
      have Hy := Lib.hid hy
      have Hlen := Lib.hid hlen
      clear hL hy hlen
      cases hxy : (x == y) with
      | false =>
        have hno : ¬ (pre ++ [x]) <+: linesL [] s := fun hp => by
          obtain ⟨t, ht⟩ := hp
          have h2 := Hy.out
          rw [← ht, List.append_assoc, List.getElem?_append_right (Nat.le_refl _), Nat.sub_self] at h2
          simp at h2
          rw [beq_eq_false_iff_ne] at hxy
          exact hxy h2
        have Hno := Lib.hid hno
        clear hno
        gi_wp2
        exact ⟨KeepsOthers.setCell _ _ _, .inl ⟨rfl, Hno.out⟩⟩
      | true =>
        have hwr : LI w b (b + 1 + 1) (b + 1) s nn (.slice (some ⟨g, 0, none⟩) (linesL [] s).length cp) (b + 1 + 1 + 1) (b + 1 + 1 + 1 + 1) 0 [] (pre ++ [x]) (W.setCell ⟨b + 1 + 1 + 1 + 1, 0, none⟩ (.int .i64 ((pre.length : Int) + 1))) := by
          obtain ⟨q1, q2, q3, q4⟩ := HL.out
          have hc : Chg (At1 (b + 1 + 1 + 1 + 1)) W (W.setCell ⟨b + 1 + 1 + 1 + 1, 0, none⟩ (.int .i64 ((pre.length : Int) + 1))) := (Chg.refl (At1 (b + 1 + 1 + 1 + 1)) W).setCell (p := ⟨b + 1 + 1 + 1 + 1, 0, none⟩) (fun _ => rfl) _
          refine ⟨q1.wrote q3 (by have := Hord.out; omega) _, hc.at q2 (fun e => by have e : b + 1 + 1 + 1 = b + 1 + 1 + 1 + 1 := e; have := Hord.out; omega), ?_, fun d hd => hc.at (q4 d hd) (fun e => by have e : d = b + 1 + 1 + 1 + 1 := e; subst e; have := q4 _ hd; rw [q3] at this; cases this)⟩
          have := block_one_set (u := .int .i64 ((pre.length : Int) + 1)) q3
          rw [List.length_append]
          exact this
        have Hwr := Lib.hid hwr
        clear hwr
        by_cases hbk : nn < (pre.length : Int) + 1
        · gi_wp2
          exact ⟨KeepsOthers.setCell _ _ _, .inr ⟨rfl, Hwr.out⟩⟩
        · gi_wp2
          exact ⟨KeepsOthers.setCell _ _ _, trivial, Hwr.out⟩
    case done =>
      rintro D xs W hD rfl hL hK
      exact ⟨.inl rfl, D, _, rfl, hD, hK, hL, fun _ => rfl⟩
    case stop =>
      rintro D c pre W hD hpre (⟨_, hno⟩ | ⟨rfl, h0, hL⟩) hK
      · exact absurd hpre hno
      · exact wpIn_exit ⟨.inr rfl, D, pre, rfl, hD, hK, hL, fun h => by omega⟩
  case rest0 =>
    rintro e a W' ⟨he, D0, pre0, rfl, hD0, hK0, hL0, hN0⟩
    refine inBlock_leave he ?_
    have q0 := cell_row hL0.2.1 0 (v := .int .i64 0) rfl
    have q1 := cell_row hL0.2.2.1 0 (v := .int .i64 pre0.length) rfl
    have q2 := cell_row hL0.1.want 0 (v := .slice ao (linesL [] s).length cp) rfl
    have q3 := cell_row hL0.1.res 0 (v := .bool false) rfl
    have q4 : W'.frozen? ⟨w.heap.size, 0, none⟩ = false := by unfold World.frozen?; simp [hL0.1.res]
    have HL1 : Hid (LI w b (b + 1 + 1) (b + 1) s nn (.slice ao (linesL [] s).length cp) W'.heap.size (W'.heap.size + 1) 1 [D0] [] ((W'.alloc (.cells #[.int .i64 1] 3)).alloc (.cells #[.int .i64 0] 3))) := by
      have ha : Chg Nob W' ((W'.alloc (.cells #[.int .i64 1] 3)).alloc (.cells #[.int .i64 0] 3)) := ((Chg.refl _ _).alloc _).alloc _
      refine ⟨hL0.1.nob ha, ((Chg.refl Nob _).alloc _).at (heap_alloc_new W' _) (fun e => e), ?_, fun d hd => ?_⟩
      · have := heap_alloc_new (W'.alloc (.cells #[.int .i64 1] 3)) (.cells #[.int .i64 0] 3)
        rw [World.size_alloc] at this
        exact this
      · simp at hd
        subst hd
        exact ha.at hK0 (fun e => e)
    have z0 : (W'.alloc (.cells #[.int .i64 1] 3)).cell? ⟨W'.heap.size, 0, none⟩ = some (.int .i64 1) := cell_row (heap_alloc_new W' _) 0 rfl
    have Hord1 : Hid (w.heap.size + 1 ≤ b ∧ b + 1 + 1 + 1 + 1 + 1 ≤ W'.heap.size ∧ D0 < W'.heap.size ∧ b + 1 + 1 + 1 + 1 + 1 ≤ D0 ∧ ((W'.alloc (.cells #[.int .i64 1] 3)).alloc (.cells #[.int .i64 0] 3)).heap.size = W'.heap.size + 2) := by
      have h1 := Hord.out
      have h2 := (Array.getElem?_eq_some_iff.1 hK0).1
      refine ⟨h1.1, by omega, h2, by omega, by simp⟩
    clear hL0 Hord
    have Hord := Hord1
    clear Hord1
    gi_wp2
    rw [roundsIn_succ]
    gi_wp2
    generalize ((W'.alloc (.cells #[.int .i64 1] 3)).alloc (.cells #[.int .i64 0] 3)) = W6 at *
    generalize W'.heap.size = rb1 at *
    refine wpIn_mono (Q := fun e a W' => (e = .normal ∨ e = .exit 2) ∧ ∃ (D : Nat) (pre : List (List UInt8)), a = { tmps := #[.string ⟨s.toArray⟩, .int .i64 m, undef, undef, .pointer (some ⟨w.heap.size, 0, none⟩), .pointer (some ⟨b, 0, none⟩), Value.func (Fn.func 51) #[] #[Value.pointer (some ⟨b + 1, 0, none⟩)], .pointer (some ⟨b + 1 + 1, 0, none⟩), .pointer (some ⟨rb1, 0, none⟩), .pointer (some ⟨rb1 + 1, 0, none⟩), undef, .bool true, .bool false, .string ⟨s.toArray⟩, .slice ao (linesL [] s).length cp, .string ⟨s.toArray⟩, Value.func (Fn.func 51) #[] #[Value.pointer (some ⟨b + 1, 0, none⟩)], .int .i64 m, .int .i64 nn, .int .i64 1, .bool true, .int .i64 0, .int .i64 1, Value.func (Fn.func 51) #[] #[Value.pointer (some ⟨b + 1, 0, none⟩)], undef, undef, undef, undef, undef, undef, undef, undef, undef, undef, undef, undef, undef, undef, undef, undef, undef, undef, undef, undef, undef, undef, .int .i64 0, .bool false, .bool false, undef, undef, undef, undef, .bool false, .int .i64 0], defers := { target := .collected D, args := #[] } :: [{ target := .collected D0, args := #[] }] } ∧ W6.heap.size ≤ D ∧ W'.heap[D]? = some (.deferred (some [])) ∧ LI w b (b + 1 + 1) (b + 1) s nn (.slice ao (linesL [] s).length cp) (rb1) (rb1 + 1) 1 [D0] pre W' ∧ (1 = 1 → pre.length = (linesL [] s).length)) ?range1 ?rest1
    case range1 =>
      refine wpIn_rangeFunc_ownF rfl h1 (gf := 51) (lb := #[.pointer (some ⟨b + 1, 0, none⟩)]) rfl trivial (enters_of Try.func51 (by kernel_rfl) rfl)
        (lines_stops (n - 1) (by omega) (b + 1) s (by omega) _ (cell_row HL1.out.1.box 0 rfl) (Array.getElem?_eq_some_iff.1 HL1.out.1.box).1) (fun _ _ => trivial) (fun _ _ _ _ _ _ _ _ => trivial) (Below.refl _ _) (fun _ => rfl)
        (LI w b (b + 1 + 1) (b + 1) s nn (.slice ao (linesL [] s).length cp) (rb1) (rb1 + 1) 1 [D0]) (fun c pre W => (c = .ret ∧ ¬ pre <+: linesL [] s) ∨ (c = .exit 2 ∧ 1 = 0 ∧ LI w b (b + 1 + 1) (b + 1) s nn (.slice ao (linesL [] s).length cp) (rb1) (rb1 + 1) 1 [D0] pre W))
        (LI.own (by have := Hord.out; omega) (by intro d hd; have := Hord.out; simp at hd; try omega)) (fun c pre W W' row hs hg hr => hs.imp id (fun h => ⟨h.1, h.2.1, LI.own (by have := Hord.out; omega) (by intro d hd; have := Hord.out; simp at hd; try omega) pre W W' row h.2.2 hg hr⟩)) HL1.out
        (fun x => { tmps := #[.string ⟨s.toArray⟩, .int .i64 m, undef, undef, .pointer (some ⟨w.heap.size, 0, none⟩), .pointer (some ⟨b, 0, none⟩), Value.func (Fn.func 51) #[] #[Value.pointer (some ⟨b + 1, 0, none⟩)], .pointer (some ⟨b + 1 + 1, 0, none⟩), .pointer (some ⟨rb1, 0, none⟩), .pointer (some ⟨rb1 + 1, 0, none⟩), .string ⟨x.toArray⟩, .bool true, .bool false, .string ⟨s.toArray⟩, .slice ao (linesL [] s).length cp, .string ⟨s.toArray⟩, Value.func (Fn.func 51) #[] #[Value.pointer (some ⟨b + 1, 0, none⟩)], .int .i64 m, .int .i64 nn, .int .i64 1, .bool true, .int .i64 0, .int .i64 1, Value.func (Fn.func 51) #[] #[Value.pointer (some ⟨b + 1, 0, none⟩)], .string ⟨x.toArray⟩, undef, undef, undef, undef, undef, undef, undef, undef, undef, undef, undef, undef, undef, undef, undef, undef, undef, undef, undef, undef, undef, .int .i64 0, .bool false, .bool false, undef, undef, undef, undef, .bool false, .int .i64 0], defers := [] }) ?assign ?body ?done ?stop
      case assign =>
        intro l' x W K hK
        gi_wp2
        exact hK
      case body =>
        rintro l' pre x W hL hlen
        have HL := Lib.hid hL
        obtain ⟨y, hy⟩ : ∃ y, (linesL [] s)[pre.length]? = some y := ⟨_, List.getElem?_eq_getElem hlen⟩
        obtain ⟨g, cap, hv, hyc⟩ := hL.1.text hy
        cases hv
        have z0 := cell_row hL.1.want 0 (v := .slice (some ⟨g, 0, none⟩) (linesL [] s).length cp) rfl
        have z1 := cell_row hL.2.1 0 (v := .int .i64 1) rfl
        have z2 := cell_row hL.2.2.1 0 (v := .int .i64 pre.length) rfl
        have z3 := cell_row hL.1.num 0 (v := .int .i64 nn) rfl
        have z4 := cell_row hL.1.res 0 (v := .bool false) rfl
        have z5 : W.frozen? ⟨w.heap.size, 0, none⟩ = false := by unfold World.frozen?; simp [hL.1.res]
        have z6 : W.frozen? ⟨rb1 + 1, 0, none⟩ = false := by unfold World.frozen?; simp [hL.2.2.1]
        have hki : (pre.length : Int) < ((linesL [] s).length : Int) := by omega
        have hk0 : (0 : Int) ≤ (pre.length : Int) := by omega
        have hNm : (linesL [] s).length ≤ s.length := linesL_len s
        have Hy := Lib.hid hy
        have Hlen := Lib.hid hlen
        clear hL hy hlen
        cases hxy : (x == y) with
        | false =>
          have hno : ¬ (pre ++ [x]) <+: linesL [] s := fun hp => by
            obtain ⟨t, ht⟩ := hp
            have h2 := Hy.out
            rw [← ht, List.append_assoc, List.getElem?_append_right (Nat.le_refl _), Nat.sub_self] at h2
            simp at h2
            rw [beq_eq_false_iff_ne] at hxy
            exact hxy h2
          have Hno := Lib.hid hno
          clear hno
          gi_wp2
          exact ⟨KeepsOthers.setCell _ _ _, .inl ⟨rfl, Hno.out⟩⟩
        | true =>
          have hwr : LI w b (b + 1 + 1) (b + 1) s nn (.slice (some ⟨g, 0, none⟩) (linesL [] s).length cp) (rb1) (rb1 + 1) 1 [D0] (pre ++ [x]) (W.setCell ⟨rb1 + 1, 0, none⟩ (.int .i64 ((pre.length : Int) + 1))) := by
            obtain ⟨q1, q2, q3, q4⟩ := HL.out
            have hc : Chg (At1 (rb1 + 1)) W (W.setCell ⟨rb1 + 1, 0, none⟩ (.int .i64 ((pre.length : Int) + 1))) := (Chg.refl (At1 (rb1 + 1)) W).setCell (p := ⟨rb1 + 1, 0, none⟩) (fun _ => rfl) _
            refine ⟨q1.wrote q3 (by have := Hord.out; omega) _, hc.at q2 (fun e => by have e : rb1 = rb1 + 1 := e; have := Hord.out; omega), ?_, fun d hd => hc.at (q4 d hd) (fun e => by have e : d = rb1 + 1 := e; subst e; have := q4 _ hd; rw [q3] at this; cases this)⟩
            have := block_one_set (u := .int .i64 ((pre.length : Int) + 1)) q3
            rw [List.length_append]
            exact this
          have Hwr := Lib.hid hwr
          clear hwr
          gi_wp2
          exact ⟨KeepsOthers.setCell _ _ _, trivial, Hwr.out⟩
      case done =>
        rintro D xs W hD rfl hL hK
        exact ⟨.inl rfl, D, _, rfl, hD, hK, hL, fun _ => rfl⟩
      case stop =>
        rintro D c pre W hD hpre (⟨_, hno⟩ | ⟨rfl, h0, hL⟩) hK
        · exact absurd hpre hno
        · exact wpIn_exit ⟨.inr rfl, D, pre, rfl, hD, hK, hL, fun h => by omega⟩
    case rest1 =>
      rintro e a W' ⟨he, D1, pre1, rfl, hD1, hK1, hL1, hN1⟩
      refine inBlock_leave he ?_
      have q0 := cell_row hL1.2.1 0 (v := .int .i64 1) rfl
      have q1 := cell_row hL1.2.2.1 0 (v := .int .i64 pre1.length) rfl
      have q2 := cell_row hL1.1.want 0 (v := .slice ao (linesL [] s).length cp) rfl
      have q3 := cell_row hL1.1.res 0 (v := .bool false) rfl
      have q4 : W'.frozen? ⟨w.heap.size, 0, none⟩ = false := by unfold World.frozen?; simp [hL1.1.res]
      have hr1 := hN1 rfl
      rw [hr1] at q1
      have hres := hL1.1.res
      have hch := hL1.1.chg
      have hK0' := hL1.2.2.2 D0 (by simp)
      have h2 := (Array.getElem?_eq_some_iff.1 hK1).1
      have Hord2 : Hid (w.heap.size + 1 ≤ b ∧ b < D0 ∧ D0 < D1) := by
        have := Hord.out
        refine ⟨by omega, by omega, by omega⟩
      have z9 : (W'.alloc (.cells #[.int .i64 2] 3)).cell? ⟨W'.heap.size, 0, none⟩ = some (.int .i64 2) := cell_row (heap_alloc_new W' _) 0 rfl
      have ha : Chg Nob W' (W'.alloc (.cells #[.int .i64 2] 3)) := (Chg.refl _ _).alloc _
      have q5 := ha.cell' q3 (fun e => e)
      have q6 : (W'.alloc (.cells #[.int .i64 2] 3)).frozen? ⟨w.heap.size, 0, none⟩ = false := by unfold World.frozen?; simp [ha.at hres (fun e => e)]
      clear hL1 hN1 hr1
      gi_wp2
      rw [roundsIn_succ]
      gi_wp2
      exact fin5 (ha.at hres (fun e => e)) (hch.trans1 ha) (by have := Hord2.out; omega) (by have := Hord2.out; omega) (ha.at hK0' (fun e => e)) (ha.at hK1 (fun e => e)) rfl



theorem walk (a0 : ByteArray) (h0 : a0.size ≤ 1048576) (a1 : Int) (w1 : (Lit.int .i64 a1).wf = true) (w : World) : Calls Try.prog 5 #[.string a0, .int .i64 a1] w fun e w' => e = .returned (.bool true) ∧ Below w.heap.size w w' := by
  have hx : -9223372036854775808 ≤ a1 ∧ a1 ≤ 9223372036854775807 := by simpa [Lit.wf, IntKind.min, IntKind.max, IntKind.signed, IntKind.bits] using w1
  have hs : a0.data.toList.length ≤ 1000000000 := by
    have : a0.data.toList.length = a0.size := by rw [Array.length_toList]; rfl
    omega
  exact callsIn_wide.1 (walk_in 6 (by omega) a0.data.toList hs a1 hx.1 hx.2 w)

set_option maxRecDepth 100000 in
theorem lifted (os : Os) (started : os.Started) (H : Type) (enc : TypeId × Value → H) (F : Stop.Interp) :
    ReturnsInHanded {} Try.checked os 5 .any ((Rows.OpenSpec.upto Rows.codecLinesSpec).pre6 enc Try.prog Try.f5 Rows.codecLinesUptoRow.domain false) (((Rows.OpenSpec.upto Rows.codecLinesSpec).at F).post enc Try.prog Try.f5 false true false false) := by
  refine returnsInHanded_of_cond (C := Try.checked) (s := Rows.OpenSpec.upto Rows.codecLinesSpec) (k := Rows.uptoSmall) rfl own started (by kernel_rfl) Try.func5
    (OpenSpec.witness (enc := enc) (C := Try.checked) (s := Rows.OpenSpec.upto Rows.codecLinesSpec) (k := Rows.uptoSmall) rfl false ⟨#[], #[.string ByteArray.empty, .int .i64 0], []⟩ 8 (by kernel_rfl) (by kernel_rfl) (by kernel_rfl)
      (x := ([.lit (.string []), .lit (.int .i64 0)], [], [])) (by kernel_rfl) rfl (by kernel_rfl)) ?_
  intro W base args ds gs before hval0 hW _ hk _
  have hval : ∀ (j : Nat) t v, Try.f5.params[j]? = some t → args[j]? = some v → Value.okWide Try.prog W .any base t v := hval0
  have hW' := hW
  obtain ⟨p, q, hA0, hV, rfl, hfz, hnd⟩ := hW
  have hA : DataW.TrodAll enc Try.prog W 0 (fun _ => true) true Try.f5.params.toList args.toList ds p := hA0
  rw [Try.params5] at hA hval
  obtain ⟨v0, vs0, d0, ds0, p0, q0, hargs, rfl, rfl, h0, r0⟩ := trodAll_cons hA
  obtain ⟨v1, vs1, d1, ds1, p1, q1, rfl, rfl, rfl, h1, r1⟩ := trodAll_cons r0
  obtain ⟨rfl, rfl, rfl⟩ := trodAll_nil r1
  obtain rfl : args = #[v0, v1] := by cases args; simp_all
  obtain ⟨rfl, rfl⟩ := trodVars_none hV
  have k0 := h0
  have lt0 : ∀ x ∈ p0, x.block < W.heap.size := by obtain ⟨m, hm⟩ := k0; exact DataW.trod_lt m _ _ _ hm
  have k1 := h1
  have lt1 : ∀ x ∈ p1, x.block < W.heap.size := by obtain ⟨m, hm⟩ := k1; exact DataW.trod_lt m _ _ _ hm
  obtain ⟨a0, rfl, rfl, e0, w0⟩ := open_string Try.underlying9 (hval 0 9 v0 rfl rfl) h0
  obtain ⟨a1, rfl, e1, e2, w1⟩ := open_int Try.underlying3 (hval 1 3 v1 rfl rfl) h1
  have hb : a0.size ≤ 1048576 := by
    have h := of_decide_eq_true hk
    have hlen : a0.data.toList.length = a0.size := by rw [Array.length_toList]; rfl
    simp only [List.append_nil, Rows.uptoBulkAll, Rows.uptoBulk] at h
    omega
  clear hA0 hval0
  refine (walk a0 hb a1 w1 W).mono fun e W' ⟨he, bel⟩ => ?_
  subst he
  exact ⟨_, rfl, _, _, _, [], _, [], hW', trodAll_mk1 (shut_bool Try.underlying4 _), (trodAll_cons_mk (Below.trod laidOut (by kernel_rfl) (of_decide_eq_true (by kernel_rfl)) k0 bel lt0) (trodAll_cons_mk (Below.trod laidOut (by kernel_rfl) (of_decide_eq_true (by kernel_rfl)) k1 bel lt1) trodAll_mk0)), rfl, bel.frame _, fun h => by cases h⟩

theorem over : Rows.codecLinesUptoRow.holds Try.pinned (Rows.OpenSpec.upto Rows.codecLinesSpec) :=
  OpenClaim.holds_of_cond 5 Try.f5 rfl rfl rfl rfl rfl rfl rfl ⟨rfl, rfl, rfl, rfl, rfl⟩ rfl rfl rfl rfl rfl (by kernel_rfl) Try.func5 (by kernel_rfl)
    (of_decide_eq_true (by kernel_rfl)) (by unfold Func.isWrapper; rw [if_neg (of_decide_eq_false (by kernel_rfl))]; exact ⟨rfl, rfl⟩)
    (fun os started H enc _ F => lifted os started H enc F)

theorem proved : Rows.CodecLinesUptoSaid :=
  over

end Go.Proofs.Ytickdmalkmgkiaa.codecLines
