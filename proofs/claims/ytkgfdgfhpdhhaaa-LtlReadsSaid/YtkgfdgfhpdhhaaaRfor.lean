/- The reference's parser: its levels. Conditions: its words lie in the world. -/
import Derived.Test.YtkgfdgfhpdhhaaaRpre
import Derived.Deep.LoopGhost
namespace Go.Proofs.Ytkgfdgfhpdhhaaa
open Go.ChangeShapes Go.WideShapes Go.RowKit

set_option maxRecDepth 100000 in
set_option maxHeartbeats 4000000 in
theorem formula5 {pb g : Nat} {v : Value} {L : List Tok} {N a : Nat} (h : PreC pb g v L N a) : ForC pb g v L N 5 a := by
  intro m w hm hP
  obtain rfl : m = 5 := hm
  have hpb := (Array.getElem?_eq_some_iff.1 hP.box).1
  have hgl := hP.gl
  have Hw1 := Lib.hid (Pw.first w hpb)
  have hcall := h _ (hP.nob ((Chg.refl Nob w).alloc (.cells #[.int .i64 0, .string ⟨#[]⟩, .slice none 0 0] 37)))
  have Hs := Lib.hid (World.size_alloc w (.cells #[.int .i64 0, .string ⟨#[]⟩, .slice none 0 0] 37))
  have Hcall := Lib.hid hcall
  clear h hP hcall
  go_enter Try.func48, Try.ntmps48
  go_wp2_with fail
  generalize w.alloc (.cells #[.int .i64 0, .string ⟨#[]⟩, .slice none 0 0] 37) = w1 at *
  have hcall := Hcall.out
  (with_reducible refine hcall.mono ?_)
  clear hcall
  rintro e w2 ⟨hc2, out, k0, nm, ao, len, cap, a', hG, rfl, hR⟩
  have Hw2 := Lib.hid (Hw1.out.chg hc2)
  have Hpost := Lib.hid (Pw.fin (w := w) (W := w2) Hw2.out hgl hG (by rw [Hs.out] at hR; exact hR))
  obtain ⟨d0, d1, d2, g0, g1, g2⟩ := cells_three Hw2.out.b
  obtain ⟨r0, r1, r2, _⟩ := cells_three (block_three_all Hw2.out.b (.int .i64 k0) (.string nm) (.slice ao len cap))
  have Hr := Lib.hid (And.intro r0 (And.intro r1 r2))
  clear r0 r1 r2 hG hR
  go_wp2
  obtain ⟨r0, r1, r2⟩ := Hr.out
  exact bodyPost_ret (v := .agg #[.int .i64 k0, .string nm, .slice ao len cap]) (by simp [results, Try.results48, go_sem, r0, r1, r2]) rfl Hpost.out

/-- What the level's first formula lets follow. -/
def Cont (L : List Tok) (N n a a' : Nat) (t : T) : Prop := (leftOf n = true → ∀ out, G (.loop n t) ((MM L N).drop a') out → G (.lev n) ((MM L N).drop a) out) ∧ (leftOf n = false → G (.lev (n + 1)) ((MM L N).drop a) (.ok t ((MM L N).drop a')))
/-- A level's boxes: the result's, the formula's. -/
structure Fo (pb g : Nat) (w : World) (D : Nat) (k0 : Int) (nm : ByteArray) (ao : Option Addr) (len cap : Nat) (wr : World) : Prop where
  lt : pb < w.heap.size
  gl : g < w.heap.size
  dl : w.heap.size < D ∧ D < wr.heap.size
  c : Chg (At1 pb) w wr
  b : wr.heap[w.heap.size]? = some (.cells #[.int .i64 0, .string ⟨#[]⟩, .slice none 0 0] 37 (0, 0))
  d : wr.heap[D]? = some (.cells #[.int .i64 k0, .string nm, .slice ao len cap] 37 (0, 0))
/-- A level's formula so far. -/
structure FoOk (pb g : Nat) (v : Value) (L : List Tok) (N n a : Nat) (w : World) (D : Nat) (val : Value) (t : T) (a' : Nat) (wr : World) : Prop where
  f : Fresh (fun b => w.heap.size < b ∧ b ≠ D) wr t val
  le : a' ≤ L.length
  lt : a < a'
  p : Pz wr pb g v L a' (-1)
  cont : Cont L N n a a' t
/-- A level that has failed. -/
structure FoBad (pb g : Nat) (v : Value) (L : List Tok) (N n a j : Nat) (y : Tok) (a' : Nat) (wr : World) : Prop where
  gr : G (.lev n) ((MM L N).drop a) (.err (wrongAt y))
  at' : (MM L N)[j]? = some y
  le : a' + a ≤ 2 * L.length + 1
  p : Pz wr pb g v L a' (j : Int)
section
variable {pb g : Nat} {v : Value} {L : List Tok} {N n a a' j D : Nat} {w wr w' w2 w5 w6 w9 : World} {tok y : Tok} {k k0 k1 : Int} {nm nm1 : ByteArray} {ao ao1 : Option Addr} {len cap len1 cap1 : Nat} {out : Out} {t u : T} {val : Value}
theorem Fo.chg (h : Fo pb g w D k0 nm ao len cap wr) (hc : Chg (At1 pb) wr w') : Fo pb g w D k0 nm ao len cap w' := by
  have := h.lt
  have := h.dl
  exact ⟨h.lt, h.gl, ⟨h.dl.1, Nat.lt_of_lt_of_le h.dl.2 hc.size⟩, h.c.trans1 hc, hc.at h.b (fun e => by have e : w.heap.size = pb := e; omega), hc.at h.d (fun e => by have e : D = pb := e; omega)⟩
theorem Fo.pw (h : Fo pb g w D k0 nm ao len cap wr) : Pw pb w wr := ⟨h.lt, h.c, by have := h.dl; omega, h.b⟩
theorem FoOk.nob (h : FoOk pb g v L N n a w D val t a' wr) (hc : Chg Nob wr w') : FoOk pb g v L N n a w D val t a' w' :=
  ⟨h.f.chg hc (fun _ _ _ e => e) (fun _ h => h), h.le, h.lt, h.p.nob hc, h.cont⟩
/-- Behind the first call. -/
theorem Fo.first (h1 : Pw pb w w2) (hg : g < w.heap.size) : Fo pb g w w2.heap.size k0 nm ao len cap (w2.alloc (.cells #[.int .i64 k0, .string nm, .slice ao len cap] 37)) :=
  have hA : Chg Nob w2 (w2.alloc (.cells #[.int .i64 k0, .string nm, .slice ao len cap] 37)) := (Chg.refl _ _).alloc _
  ⟨h1.lt, hg, ⟨h1.s, by rw [World.size_alloc]; omega⟩, h1.c.trans1 hA.any, hA.at h1.b (fun e => e), heap_alloc_new _ _⟩
theorem FoOk.first (hn : n ≤ 4) (hG : G (.lev (n + 1)) ((MM L N).drop a) (.ok t ((MM L N).drop a'))) (ha : a ≤ L.length) (hR : ROut (w.heap.size + 1) w2 pb g v L N a a' val (.ok t ((MM L N).drop a'))) (hA : Chg Nob w2 w') : FoOk pb g v L N n a w w2.heap.size val t a' w' := by
  obtain ⟨h1, _, h3, h4⟩ := hR
  have hs := G_lev_size hG
  have hp := sizeT_pos t
  simp only [MM, List.length_drop, List.length_append, List.length_cons, List.length_nil] at hs
  refine ⟨?_, h1, by omega, h4.nob hA, fun hl o ho => .left hn hl hG ho, fun _ => hG⟩
  have h5 : Fresh (fun b => w.heap.size < b ∧ b < w2.heap.size) w2 t val := h3.lt (fun b hb hb2 => ⟨hb, hb2⟩)
  exact h5.chg hA (fun _ _ _ e => e) (fun b hb => ⟨hb.1, by omega⟩)
theorem FoBad.first (hn : n ≤ 4) {x : Int × Nat} (hG : G (.lev (n + 1)) ((MM L N).drop a) (.err x)) (hR : ROut (w.heap.size + 1) w2 pb g v L N a a' val (.err x)) (hA : Chg Nob w2 w') : ∃ j y, FoBad pb g v L N n a j y a' w' := by
  obtain ⟨j, y, h1, rfl, h3, h4⟩ := hR
  exact ⟨j, y, .down_err hn hG, h1, h3, h4.nob hA⟩
/-- No operator of this level follows. -/
theorem Fo.stop (h : Fo pb g w D k0 nm ao len cap wr) (ho : FoOk pb g v L N n a w D (.agg #[.int .i64 k0, .string nm, .slice ao len cap]) t a' wr) (hn : n ≤ 4) (hop : opOf n (wordAt L a') = none) :
    RPost pb g v L N n a w (.returned (.agg #[.int .i64 k0, .string nm, .slice ao len cap])) (((wr.setCell ⟨w.heap.size, 0, none⟩ (.int .i64 k0)).setCell ⟨w.heap.size, 1, none⟩ (.string nm)).setCell ⟨w.heap.size, 2, none⟩ (.slice ao len cap)) := by
  obtain ⟨x, _, hx, hd⟩ := wordAt_at (L := L) (a := a') N ho.le
  have hd : (MM L N).drop a' = x :: (MM L N).drop (a' + 1) := hd
  have hG : G (.lev n) ((MM L N).drop a) (.ok t ((MM L N).drop a')) := by
    cases hl : leftOf n with
    | true =>
      refine ho.cont.1 hl _ ?_
      rw [hd]
      exact .stop hl (by rw [hx]; exact hop)
    | false =>
      have := ho.cont.2 hl
      rw [hd] at this ⊢
      exact .none hn hl this (by rw [hx]; exact hop)
  exact h.pw.fin (a' := a') (out := .ok t ((MM L N).drop a')) h.gl hG ⟨ho.le, rfl, ho.f.chg (Chg.refl Nob _) (fun _ _ _ e => e) (fun b hb => hb.1), ho.p⟩
theorem Fo.bad (h : Fo pb g w D k0 nm ao len cap wr) (ho : FoBad pb g v L N n a j y a' wr) :
    RPost pb g v L N n a w (.returned (.agg #[.int .i64 k0, .string nm, .slice ao len cap])) (((wr.setCell ⟨w.heap.size, 0, none⟩ (.int .i64 k0)).setCell ⟨w.heap.size, 1, none⟩ (.string nm)).setCell ⟨w.heap.size, 2, none⟩ (.slice ao len cap)) :=
  h.pw.fin (a' := a') (out := .err (wrongAt y)) h.gl ho.gr ⟨j, y, ho.at', rfl, ho.le, ho.p⟩
theorem Fresh.two {R : Nat → Prop} {W : World} {F : Nat} {x0 x1 x2 y0 y1 y2 : Value} (hF : W.heap[F]? = some (.cells #[x0, x1, x2, y0, y1, y2] 37 (0, 0))) (hR : R F) (ht : Fresh R W t (.agg #[x0, x1, x2])) (hu : Fresh R W u (.agg #[y0, y1, y2])) : Fresh R W (two k t u) (.agg #[.int .i64 k, .string ⟨#[]⟩, .slice (some ⟨F, 0, none⟩) 2 2]) := by
  unfold Go.Proofs.Ytkgfdgfhpdhhaaa.two
  rw [Fresh]
  refine .inr ⟨F, _, hR, rfl, hF, by simp, ?_⟩
  rw [FreshL, FreshL, FreshL]
  exact ⟨ht, hu, trivial⟩
/-- What holds behind the formula at the right. -/
structure Rg (pb g : Nat) (v : Value) (L : List Tok) (N n' : Nat) (w : World) (D E F a' a2 : Nat) (out : Out) (k k0 k1 : Int) (nm nm1 : ByteArray) (ao : Option Addr) (len cap : Nat) (ao1 : Option Addr) (len1 cap1 : Nat) (wr w6 w9 : World) : Prop where
  c6 : Chg (At1 pb) wr w6
  el : wr.heap.size ≤ E
  gr : G (.lev n') ((MM L N).drop (a' + 1)) out
  r : ROut (E + 1) w6 pb g v L N (a' + 1) a2 (.agg #[.int .i64 k1, .string nm1, .slice ao1 len1 cap1]) out
  fl : w6.heap.size ≤ F
  es : E < w6.heap.size
  c9 : Chg (fun q => q = D ∨ q = E) w6 w9
  d9 : w9.heap[D]? = some (.cells #[.int .i64 k, .string ⟨#[]⟩, .slice (some ⟨F, 0, none⟩) 2 2] 37 (0, 0))
  f9 : w9.heap[F]? = some (.cells #[.int .i64 k0, .string nm, .slice ao len cap, .int .i64 k1, .string nm1, .slice ao1 len1 cap1] 37 (0, 0))
theorem Rg.fo {n' E F a2 : Nat} (h : Fo pb g w D k0 nm ao len cap wr) (hr : Rg pb g v L N n' w D E F a' a2 out k k0 k1 nm nm1 ao len cap ao1 len1 cap1 wr w6 w9) : Fo pb g w D k ⟨#[]⟩ (some ⟨F, 0, none⟩) 2 2 w9 := by
  have h6 := h.chg hr.c6
  have h1 := h.dl
  have h2 := h.lt
  have h3 := hr.el
  have h4 := h6.dl
  refine ⟨h.lt, h.gl, ⟨h1.1, Nat.lt_of_lt_of_le h4.2 hr.c9.size⟩, h6.c.trans hr.c9 (fun i hi e => by rcases e with e | e <;> omega), hr.c9.at h6.b (fun e => by rcases e with e | e <;> omega), hr.d9⟩
theorem Rg.both {n' E F a2 : Nat} {rest : List Tok} (h : Fo pb g w D k0 nm ao len cap wr) (ho : FoOk pb g v L N n a w D (.agg #[.int .i64 k0, .string nm, .slice ao len cap]) t a' wr) (hr : Rg pb g v L N n' w D E F a' a2 (.ok u rest) k k0 k1 nm nm1 ao len cap ao1 len1 cap1 wr w6 w9) :
    rest = (MM L N).drop a2 ∧ a2 ≤ L.length ∧ Pz w9 pb g v L a2 (-1) ∧ Fresh (fun b => w.heap.size < b ∧ b ≠ D) w9 (two k t u) (.agg #[.int .i64 k, .string ⟨#[]⟩, .slice (some ⟨F, 0, none⟩) 2 2]) := by
  obtain ⟨r1, r2, r3, r4⟩ := hr.r
  have h1 := h.dl
  have h2 := h.lt
  have h3 := hr.el
  have h5 := hr.c6.size
  have h6 := hr.fl
  have h7 := h.gl
  refine ⟨r2, r1, r4.chg hr.c9 (fun e => by rcases e with e | e <;> omega) (fun e => by rcases e with e | e <;> omega), Fresh.two hr.f9 ⟨by omega, by omega⟩ ?_ ?_⟩
  · have e1 : Fresh (fun b => w.heap.size < b ∧ b ≠ D ∧ b < wr.heap.size) wr t (.agg #[.int .i64 k0, .string nm, .slice ao len cap]) := ho.f.lt (fun b hb hb2 => ⟨hb.1, hb.2, hb2⟩)
    have e2 : Fresh (fun b => w.heap.size < b ∧ b ≠ D ∧ b < wr.heap.size) w6 t (.agg #[.int .i64 k0, .string nm, .slice ao len cap]) := e1.chg hr.c6 (fun b hb _ e => by have e : b = pb := e; omega) (fun _ h => h)
    exact e2.chg hr.c9 (fun b hb _ e => by rcases e with e | e <;> omega) (fun b hb => ⟨hb.1, hb.2.1⟩)
  · exact r3.chg hr.c9 (fun b hb _ e => by unfold Ge at hb; rcases e with e | e <;> omega) (fun b hb => by unfold Ge at hb; exact ⟨by omega, by omega⟩)
theorem Rg.err {n' E F a2 : Nat} {x : Int × Nat} (h : Fo pb g w D k0 nm ao len cap wr) (hr : Rg pb g v L N n' w D E F a' a2 (.err x) k k0 k1 nm nm1 ao len cap ao1 len1 cap1 wr w6 w9) :
    ∃ (j : Nat) (y : Tok), (MM L N)[j]? = some y ∧ x = wrongAt y ∧ a2 + (a' + 1) ≤ 2 * L.length + 1 ∧ Pz w9 pb g v L a2 (j : Int) := by
  obtain ⟨j, y, r1, r2, r3, r4⟩ := hr.r
  have h1 := h.dl
  have h2 := h.lt
  have h3 := hr.el
  have h7 := h.gl
  exact ⟨j, y, r1, r2, r3, r4.chg hr.c9 (fun e => by rcases e with e | e <;> omega) (fun e => by rcases e with e | e <;> omega)⟩
theorem Rg.right {E F a2 : Nat} (hr : Rg pb g v L N n w D E F a' a2 out k k0 k1 nm nm1 ao len cap ao1 len1 cap1 wr w6 w9) (h : Fo pb g w D k0 nm ao len cap wr) (ho : FoOk pb g v L N n a w D (.agg #[.int .i64 k0, .string nm, .slice ao len cap]) t a' wr) (hn : n ≤ 4) (hl : leftOf n = false) (hop : opOf n (wordAt L a') = some k) :
    RPost pb g v L N n a w (.returned (.agg #[.int .i64 k, .string ⟨#[]⟩, .slice (some ⟨F, 0, none⟩) 2 2])) (((w9.setCell ⟨w.heap.size, 0, none⟩ (.int .i64 k)).setCell ⟨w.heap.size, 1, none⟩ (.string ⟨#[]⟩)).setCell ⟨w.heap.size, 2, none⟩ (.slice (some ⟨F, 0, none⟩) 2 2)) := by
  obtain ⟨x, _, hx, hd⟩ := wordAt_at (L := L) (a := a') N ho.le
  have hd : (MM L N).drop a' = x :: (MM L N).drop (a' + 1) := hd
  have hl0 := ho.cont.2 hl
  rw [hd] at hl0
  have hlt := ho.lt
  cases out with
  | ok u rest =>
    obtain ⟨rfl, e1, e2, e3⟩ := Rg.both h ho hr
    exact (Rg.fo h hr).pw.fin (a' := a2) (out := .ok (two k t u) ((MM L N).drop a2)) h.gl (.op_ok hn hl hl0 (by rw [hx]; exact hop) hr.gr) ⟨e1, rfl, e3.chg (Chg.refl Nob _) (fun _ _ _ e => e) (fun b hb => hb.1), e2⟩
  | err x =>
    obtain ⟨j, y, e1, rfl, e3, e4⟩ := Rg.err h hr
    exact (Rg.fo h hr).pw.fin (a' := a2) (out := .err (wrongAt y)) h.gl (.op_err hn hl hl0 (by rw [hx]; exact hop) hr.gr) ⟨j, y, e1, rfl, by omega, e4⟩
theorem Rg.left {E F a2 : Nat} (hr : Rg pb g v L N (n + 1) w D E F a' a2 out k k0 k1 nm nm1 ao len cap ao1 len1 cap1 wr w6 w9) (h : Fo pb g w D k0 nm ao len cap wr) (ho : FoOk pb g v L N n a w D (.agg #[.int .i64 k0, .string nm, .slice ao len cap]) t a' wr) (hl : leftOf n = true) (hop : opOf n (wordAt L a') = some k) :
    (∃ (t2 : T), a' < a2 ∧ FoOk pb g v L N n a w D (.agg #[.int .i64 k, .string ⟨#[]⟩, .slice (some ⟨F, 0, none⟩) 2 2]) t2 a2 w9) ∨ ∃ j y, FoBad pb g v L N n a j y a2 w9 := by
  obtain ⟨x, _, hx, hd⟩ := wordAt_at (L := L) (a := a') N ho.le
  have hd : (MM L N).drop a' = x :: (MM L N).drop (a' + 1) := hd
  have hlt := ho.lt
  cases out with
  | ok u rest =>
    obtain ⟨rfl, e1, e2, e3⟩ := Rg.both h ho hr
    have hs := G_lev_size hr.gr
    have hp := sizeT_pos u
    simp only [MM, List.length_drop, List.length_append, List.length_cons, List.length_nil] at hs
    refine .inl ⟨two k t u, by omega, e3, e1, by omega, e2, fun _ o hgo => ho.cont.1 hl _ ?_, fun h2 => by rw [hl] at h2; cases h2⟩
    rw [hd]
    exact .go hl (by rw [hx]; exact hop) hr.gr hgo
  | err x =>
    obtain ⟨j, y, e1, rfl, e3, e4⟩ := Rg.err h hr
    refine .inr ⟨j, y, ho.cont.1 hl _ ?_, e1, by omega, e4⟩
    rw [hd]
    exact .go_err hl (by rw [hx]; exact hop) hr.gr
theorem rg_mk {n' E a2 : Nat} (c6 : Chg (At1 pb) wr w6) (el : wr.heap.size ≤ E) (hDE : D < E) (hg : G (.lev n') ((MM L N).drop (a' + 1)) out) (r : ROut (E + 1) w6 pb g v L N (a' + 1) a2 (.agg #[.int .i64 k1, .string nm1, .slice ao1 len1 cap1]) out) (es : E < w6.heap.size)
    (c8 : Chg (At1 E) w6 w9) (d8 : w9.heap[D]? = some (.cells #[.int .i64 k0, .string nm, .slice ao len cap] 37 (0, 0))) (f8 : w9.heap[w6.heap.size]? = some (.cells #[.int .i64 k0, .string nm, .slice ao len cap, .int .i64 k1, .string nm1, .slice ao1 len1 cap1] 37 (0, 0))) :
    Rg pb g v L N n' w D E w6.heap.size a' a2 out k k0 k1 nm nm1 ao len cap ao1 len1 cap1 wr w6 (((w9.setCell ⟨D, 0, none⟩ (.int .i64 k)).setCell ⟨D, 1, none⟩ (.string ⟨#[]⟩)).setCell ⟨D, 2, none⟩ (.slice (some ⟨w6.heap.size, 0, none⟩) 2 2)) := by
  have k3 := chg_three w9 D (.int .i64 k) (.string ⟨#[]⟩) (.slice (some ⟨w6.heap.size, 0, none⟩) 2 2)
  exact ⟨c6, el, hg, r, Nat.le_refl _, es, (c8.mono (fun _ _ e => .inr e)).trans k3 (fun _ _ e => .inl e), block_three_all d8 _ _ _, k3.at f8 (fun e => by have e : w6.heap.size = D := e; omega)⟩
end

set_option maxRecDepth 100000 in
set_option maxHeartbeats 16000000 in
theorem formula_right {pb g : Nat} {v : Value} {L : List Tok} {N n a : Nat} (hn : n ≤ 4) (hlf : leftOf n = false) (ha : a ≤ L.length) (hk : ForC pb g v L N (n + 1) a) (hs : ∀ a1, a < a1 → a1 ≤ L.length → ForC pb g v L N n a1) : ForC pb g v L N n a := by
  intro m w hm hP
  have hm5 : ¬ m = 5 := by omega
  have hmi : 0 ≤ m ∧ m ≤ 4 := by omega
  obtain ⟨hmi0, hmi4⟩ := hmi
  have hm2 : ¬ m = 2 := by simp [leftOf] at hlf; omega
  have hm3 : ¬ m = 3 := by simp [leftOf] at hlf; omega
  have Hm : Hid (m = (n : Int)) := hm
  have hpb := (Array.getElem?_eq_some_iff.1 hP.box).1
  have hgl := hP.gl
  have Hw1 := Lib.hid (Pw.first w hpb)
  have Hcall := Lib.hid (hk (m + 1) _ (by omega) (hP.nob ((Chg.refl Nob w).alloc (.cells #[.int .i64 0, .string ⟨#[]⟩, .slice none 0 0] 37))))
  have Hs := Lib.hid (World.size_alloc w (.cells #[.int .i64 0, .string ⟨#[]⟩, .slice none 0 0] 37))
  have HS := Lib.hid hs
  have Ha := Lib.hid ha
  clear hk hP hm hs ha
  go_enter Try.func48, Try.ntmps48
  go_wp2_with fail
  generalize w.alloc (.cells #[.int .i64 0, .string ⟨#[]⟩, .slice none 0 0] 37) = w1 at *
  have hcall := Hcall.out
  (with_reducible refine hcall.mono ?_)
  clear hcall Hcall
  rintro e w2 ⟨hc2, out, k0, nm, ao, len, cap, a', hG, rfl, hR⟩
  have Hw2 := Lib.hid (Hw1.out.chg hc2)
  rw [Hs.out] at hR
  have HF0 : Hid (Fo pb g w w2.heap.size k0 nm ao len cap (w2.alloc (.cells #[.int .i64 k0, .string nm, .slice ao len cap] 37))) := Fo.first Hw2.out hgl
  have hst : Hid ((∃ t a', FoOk pb g v L N n a w w2.heap.size (.agg #[.int .i64 k0, .string nm, .slice ao len cap]) t a' (w2.alloc (.cells #[.int .i64 k0, .string nm, .slice ao len cap] 37))) ∨ ∃ j y a', FoBad pb g v L N n a j y a' (w2.alloc (.cells #[.int .i64 k0, .string nm, .slice ao len cap] 37))) := by
    have hA : Chg Nob w2 (w2.alloc (.cells #[.int .i64 k0, .string nm, .slice ao len cap] 37)) := (Chg.refl _ _).alloc _
    cases out with
    | ok t rest =>
      obtain rfl := hR.2.1
      exact .inl ⟨t, a', FoOk.first hn hG Ha.out hR hA⟩
    | err x =>
      obtain ⟨j, y, h⟩ := FoBad.first hn hG hR hA
      exact .inr ⟨j, y, a', h⟩
  clear hc2 hG hR
  go_wp2_with fail
  generalize w2.alloc (.cells #[.int .i64 k0, .string nm, .slice ao len cap] 37) = w3 at *
  generalize w2.heap.size = D at *
  go_loopg [] (L.length + 1) (fun q wr => ∃ k0 nm ao len cap, Hid (Fo pb g w D k0 nm ao len cap wr) ∧ ((∃ t a', L.length + 1 - a' ≤ q ∧ Hid (FoOk pb g v L N n a w D (.agg #[.int .i64 k0, .string nm, .slice ao len cap]) t a' wr)) ∨ ∃ j y a', Hid (FoBad pb g v L N n a j y a' wr)))
  case atStart =>
    refine ⟨_, _, _, _, _, HF0, ?_⟩
    rcases hst.out with ⟨t, a', h⟩ | ⟨j, y, a', h⟩
    · exact .inl ⟨t, a', Nat.sub_le _ _, h⟩
    · exact .inr ⟨j, y, a', h⟩
  case round =>
    clear HF0 hst
    obtain ⟨k0, nm, ao, len, cap, HF, hst⟩ := hrel
    rcases hst with hgood | hbad
    · obtain ⟨t, a', hgk, Ho⟩ := hgood
      have hw := word_any Ho.out.p (by have := Ho.out.le; have := Ho.out.p.len; omega)
      obtain ⟨c0, c1, c2, f0, f1, f2⟩ := cells_three Ho.out.p.box
      obtain ⟨y, hy⟩ : ∃ y, y = wordAt L a' := ⟨_, rfl⟩
      rw [← hy] at hw
      have Hy := Lib.hid hy
      clear hy
      go_wp2_with fail
      (with_reducible refine hw.mono ?_)
      clear hw
      rintro e w2 ⟨rfl, hc2⟩
      go_wp2_with fail
      (with_reducible refine (operator_any _ _).mono ?_)
      rintro e w3 ⟨hc3, k, l, rfl, hop⟩
      have Hf3 := Lib.hid (HF.out.chg (hc2.trans1 hc3).any)
      have Ho3 := Lib.hid (Ho.out.nob (hc2.trans1 hc3))
      have Hop : Hid (OpIs y k l) := hop
      clear hop hc2 hc3 c0 c1 c2 f0 f1 f2 HF Ho
      obtain ⟨c0, c1, c2, f0, f1, f2⟩ := cells_three Ho3.out.p.box
      by_cases hl : l = m
      · subst hl
        have Hopk : Hid (opOf n (wordAt L a') = some k) := (show opOf n (wordAt L a') = some k by rw [← Hy.out, Hop.out n hn, if_pos Hm.out])
        have hal : a' < L.length := wordAt_lt (opOf_ne Hopk.out)
        have Hlt : Hid (a < a') := Ho3.out.lt
        have ha'0 : (0 : Int) ≤ (a' : Int) := by omega
        have ha'i : (a' : Int) ≤ 5000 := by have := Ho3.out.p.len; omega
        have HP4 := Lib.hid (Ho3.out.p.setAt (a' + 1) ((a' : Int) + 1) (by omega))
        have Hc4 : Hid (Chg (At1 pb) w3 (w3.setCell ⟨pb, 1, none⟩ (.int .i64 ((a' : Int) + 1)))) := ((Chg.refl (At1 pb) _).setCell (p := ⟨pb, 1, none⟩) (fun _ => rfl) _)
        have Hf4 := Lib.hid (Hf3.out.chg Hc4.out)
        have HP5 := Lib.hid (HP4.out.nob ((Chg.refl Nob _).alloc (.cells #[.int .i64 0, .string ⟨#[]⟩, .slice none 0 0] 37)))
        have hcall := HS.out (a' + 1) (by have := Hlt.out; omega) hal _ _ Hm.out HP5.out
        have Hcall := Lib.hid hcall
        clear hcall
        have hE4 := World.size_setCell w3 ⟨pb, 1, none⟩ (.int .i64 ((a' : Int) + 1))
        have HE4 := Lib.hid hE4
        clear hE4
        have Hc5 := Lib.hid (Hc4.out.trans1 (((Chg.refl Nob _).alloc (.cells #[.int .i64 0, .string ⟨#[]⟩, .slice none 0 0] 37)).any))
        have Hb5 := Lib.hid (heap_alloc_new (w3.setCell ⟨pb, 1, none⟩ (.int .i64 ((a' : Int) + 1))) (.cells #[.int .i64 0, .string ⟨#[]⟩, .slice none 0 0] 37))
        have Hs5 := Lib.hid (World.size_alloc (w3.setCell ⟨pb, 1, none⟩ (.int .i64 ((a' : Int) + 1))) (.cells #[.int .i64 0, .string ⟨#[]⟩, .slice none 0 0] 37))
        rw [HE4.out] at Hb5 Hs5
        have hbool : (l == 2 || l == 3) = false := by simp [hm2, hm3]
        go_wp2_with fail
        generalize (w3.setCell ⟨pb, 1, none⟩ (.int .i64 ((a' : Int) + 1))).alloc (.cells #[.int .i64 0, .string ⟨#[]⟩, .slice none 0 0] 37) = w5 at *
        clear HP4 Hc4 Hf4 HP5 HE4
        have hcall := Hcall.out
        (with_reducible refine hcall.mono ?_)
        clear hcall Hcall c0 c1 c2 f0 f1 f2
        rintro e w6 ⟨hc6, out, k1, nm1, ao1, len1, cap1, a2, hG6, rfl, hR6⟩
        have HR6 := Lib.hid hR6
        have HG6 := Lib.hid hG6
        have Hc36 := Lib.hid (Hc5.out.trans1 hc6)
        have Hb6 := Lib.hid (hc6.at Hb5.out (fun e => by have e : w3.heap.size = pb := e; have := Hf3.out.lt; have := Hf3.out.dl; omega))
        have Hf6 := Lib.hid (Hf3.out.chg Hc36.out)
        have Hs6 := Lib.hid hc6.size
        clear hG6 hR6 hc6 Hb5
        have hBD : w.heap.size < D := Hf3.out.dl.1
        have hDE : D < w3.heap.size := Hf3.out.dl.2
        have hE6 : w3.heap.size < w6.heap.size := by have := Hs5.out; have := Hs6.out; omega
        obtain ⟨d0, d1, d2, g0, g1, g2⟩ := cells_three Hf6.out.b
        obtain ⟨e0, e1, e2, h0, h1, h2⟩ := cells_three Hf6.out.d
        obtain ⟨b0, b1, b2, i0, i1, i2⟩ := cells_three Hb6.out
        clear hal Hlt ha'0 ha'i
        obtain ⟨E, hEe⟩ : ∃ E, w3.heap.size = E := ⟨_, rfl⟩
        rw [hEe] at hDE hE6 b0 b1 b2 i0 i1 i2
        rw [hEe] at Hb6 Hs5
        rw [hEe]
        have HEe := Lib.hid hEe
        clear hEe
        have hc7 := chg_three w6 E (.int .i64 k1) (.string nm1) (.slice ao1 len1 cap1)
        have hs7 : (((w6.setCell ⟨E, 0, none⟩ (.int .i64 k1)).setCell ⟨E, 1, none⟩ (.string nm1)).setCell ⟨E, 2, none⟩ (.slice ao1 len1 cap1)).heap.size = w6.heap.size := by rw [World.size_setCell, World.size_setCell, World.size_setCell]
        have Hc8 := Lib.hid (hc7.trans1 (((Chg.refl Nob _).alloc (.cells #[.int .i64 k0, .string nm, .slice ao len cap, .int .i64 k1, .string nm1, .slice ao1 len1 cap1] 37)).any))
        have hF8 := heap_alloc_new (((w6.setCell ⟨E, 0, none⟩ (.int .i64 k1)).setCell ⟨E, 1, none⟩ (.string nm1)).setCell ⟨E, 2, none⟩ (.slice ao1 len1 cap1)) (.cells #[.int .i64 k0, .string nm, .slice ao len cap, .int .i64 k1, .string nm1, .slice ao1 len1 cap1] 37)
        rw [hs7] at hF8
        have HF8 := Lib.hid hF8
        have HD8 := Lib.hid (Hc8.out.at Hf6.out.d (fun e => by have e : D = E := e; omega))
        have HB8 := Lib.hid (Hc8.out.at Hf6.out.b (fun e => by have e : w.heap.size = E := e; omega))
        clear hc7 hs7 hF8
        obtain ⟨p0, p1, p2, q0, q1, q2⟩ := cells_three HD8.out
        obtain ⟨s0, s1, s2, t0, t1, t2⟩ := cells_three HB8.out
        have HRg : Hid (Rg pb g v L N n w D E w6.heap.size a' a2 out k k0 k1 nm nm1 ao len cap ao1 len1 cap1 w3 w6 (((((((w6.setCell ⟨E, 0, none⟩ (.int .i64 k1)).setCell ⟨E, 1, none⟩ (.string nm1)).setCell ⟨E, 2, none⟩ (.slice ao1 len1 cap1)).alloc (.cells #[.int .i64 k0, .string nm, .slice ao len cap, .int .i64 k1, .string nm1, .slice ao1 len1 cap1] 37)).setCell ⟨D, 0, none⟩ (.int .i64 k)).setCell ⟨D, 1, none⟩ (.string ⟨#[]⟩)).setCell ⟨D, 2, none⟩ (.slice (some ⟨w6.heap.size, 0, none⟩) 2 2))) :=
          rg_mk Hc36.out (Nat.le_of_eq HEe.out) hDE HG6.out (by rw [← Hs5.out]; exact HR6.out) hE6 Hc8.out HD8.out HF8.out
        have Hpost := Lib.hid (HRg.out.right Hf3.out Ho3.out hn hlf Hopk.out)
        have Hf9 := Lib.hid (Rg.fo Hf3.out HRg.out)
        obtain ⟨r0, r1, r2, _⟩ := cells_three (block_three_all Hf9.out.b (.int .i64 k) (.string ⟨#[]⟩) (.slice (some ⟨w6.heap.size, 0, none⟩) 2 2))
        have Hr := Lib.hid (And.intro r0 (And.intro r1 r2))
        clear r0 r1 r2
        go_wp2
        obtain ⟨r0, r1, r2⟩ := Hr.out
        exact bodyPost_ret (v := .agg #[.int .i64 k, .string ⟨#[]⟩, .slice (some ⟨w6.heap.size, 0, none⟩) 2 2]) (by simp [results, Try.results48, go_sem, r0, r1, r2]) rfl Hpost.out
      · have Hopn : Hid (opOf n (wordAt L a') = none) := (show opOf n (wordAt L a') = none by rw [← Hy.out, Hop.out n hn, if_neg (by rw [← Hm.out]; exact hl)])
        have hlm : (l != m) = true := by simpa using hl
        have Hpost := Lib.hid (Hf3.out.stop Ho3.out hn Hopn.out)
        obtain ⟨d0, d1, d2, g0, g1, g2⟩ := cells_three Hf3.out.b
        obtain ⟨e0, e1, e2, _⟩ := cells_three Hf3.out.d
        obtain ⟨r0, r1, r2, _⟩ := cells_three (block_three_all Hf3.out.b (.int .i64 k0) (.string nm) (.slice ao len cap))
        have Hr := Lib.hid (And.intro r0 (And.intro r1 r2))
        clear r0 r1 r2 c0 c1 c2 f0 f1 f2
        go_wp2
        obtain ⟨r0, r1, r2⟩ := Hr.out
        exact bodyPost_ret (v := .agg #[.int .i64 k0, .string nm, .slice ao len cap]) (by simp [results, Try.results48, go_sem, r0, r1, r2]) rfl Hpost.out
    · obtain ⟨j, y, a', HB⟩ := hbad
      have hji : ¬ (j : Int) < 0 := by omega
      have Hpost := Lib.hid (HF.out.bad HB.out)
      obtain ⟨c0, c1, c2, f0, f1, f2⟩ := cells_three HB.out.p.box
      obtain ⟨d0, d1, d2, g0, g1, g2⟩ := cells_three HF.out.b
      obtain ⟨e0, e1, e2, _⟩ := cells_three HF.out.d
      obtain ⟨r0, r1, r2, _⟩ := cells_three (block_three_all HF.out.b (.int .i64 k0) (.string nm) (.slice ao len cap))
      have Hr := Lib.hid (And.intro r0 (And.intro r1 r2))
      clear r0 r1 r2
      go_wp2
      obtain ⟨r0, r1, r2⟩ := Hr.out
      exact bodyPost_ret (v := .agg #[.int .i64 k0, .string nm, .slice ao len cap]) (by simp [results, Try.results48, go_sem, r0, r1, r2]) rfl Hpost.out

set_option maxRecDepth 100000 in
set_option maxHeartbeats 16000000 in
theorem formula_left {pb g : Nat} {v : Value} {L : List Tok} {N n a : Nat} (hn : n ≤ 4) (hlf : leftOf n = true) (ha : a ≤ L.length) (hk : ForC pb g v L N (n + 1) a) (hs : ∀ a1, a < a1 → a1 ≤ L.length → ForC pb g v L N (n + 1) a1) : ForC pb g v L N n a := by
  intro m w hm hP
  have hm5 : ¬ m = 5 := by omega
  have hmi : 0 ≤ m ∧ m ≤ 4 := by omega
  obtain ⟨hmi0, hmi4⟩ := hmi
  have Hm23 : Hid (m = 2 ∨ m = 3) := (show m = 2 ∨ m = 3 by simp [leftOf] at hlf; omega)
  have Hm : Hid (m = (n : Int)) := hm
  have hpb := (Array.getElem?_eq_some_iff.1 hP.box).1
  have hgl := hP.gl
  have Hw1 := Lib.hid (Pw.first w hpb)
  have Hcall := Lib.hid (hk (m + 1) _ (by omega) (hP.nob ((Chg.refl Nob w).alloc (.cells #[.int .i64 0, .string ⟨#[]⟩, .slice none 0 0] 37))))
  have Hs := Lib.hid (World.size_alloc w (.cells #[.int .i64 0, .string ⟨#[]⟩, .slice none 0 0] 37))
  have HL := Lib.hid hs
  have Ha := Lib.hid ha
  clear hk hP hm hs ha
  go_enter Try.func48, Try.ntmps48
  go_wp2_with fail
  generalize w.alloc (.cells #[.int .i64 0, .string ⟨#[]⟩, .slice none 0 0] 37) = w1 at *
  have hcall := Hcall.out
  (with_reducible refine hcall.mono ?_)
  clear hcall Hcall
  rintro e w2 ⟨hc2, out, k0, nm, ao, len, cap, a', hG, rfl, hR⟩
  have Hw2 := Lib.hid (Hw1.out.chg hc2)
  rw [Hs.out] at hR
  have HF0 : Hid (Fo pb g w w2.heap.size k0 nm ao len cap (w2.alloc (.cells #[.int .i64 k0, .string nm, .slice ao len cap] 37))) := Fo.first Hw2.out hgl
  have hst : Hid ((∃ t a', FoOk pb g v L N n a w w2.heap.size (.agg #[.int .i64 k0, .string nm, .slice ao len cap]) t a' (w2.alloc (.cells #[.int .i64 k0, .string nm, .slice ao len cap] 37))) ∨ ∃ j y a', FoBad pb g v L N n a j y a' (w2.alloc (.cells #[.int .i64 k0, .string nm, .slice ao len cap] 37))) := by
    have hA : Chg Nob w2 (w2.alloc (.cells #[.int .i64 k0, .string nm, .slice ao len cap] 37)) := (Chg.refl _ _).alloc _
    cases out with
    | ok t rest =>
      obtain rfl := hR.2.1
      exact .inl ⟨t, a', FoOk.first hn hG Ha.out hR hA⟩
    | err x =>
      obtain ⟨j, y, h⟩ := FoBad.first hn hG hR hA
      exact .inr ⟨j, y, a', h⟩
  clear hc2 hG hR
  go_wp2_with fail
  generalize w2.alloc (.cells #[.int .i64 k0, .string nm, .slice ao len cap] 37) = w3 at *
  generalize w2.heap.size = D at *
  go_loopg [] (L.length + 1) (fun q wr => ∃ k0 nm ao len cap, Hid (Fo pb g w D k0 nm ao len cap wr) ∧ ((∃ t a', L.length + 1 - a' ≤ q ∧ Hid (FoOk pb g v L N n a w D (.agg #[.int .i64 k0, .string nm, .slice ao len cap]) t a' wr)) ∨ ∃ j y a', Hid (FoBad pb g v L N n a j y a' wr)))
  case atStart =>
    refine ⟨_, _, _, _, _, HF0, ?_⟩
    rcases hst.out with ⟨t, a', h⟩ | ⟨j, y, a', h⟩
    · exact .inl ⟨t, a', Nat.sub_le _ _, h⟩
    · exact .inr ⟨j, y, a', h⟩
  case round =>
    clear HF0 hst
    obtain ⟨k0, nm, ao, len, cap, HF, hst⟩ := hrel
    rcases hst with hgood | hbad
    · obtain ⟨t, a', hgk, Ho⟩ := hgood
      have hw := word_any Ho.out.p (by have := Ho.out.le; have := Ho.out.p.len; omega)
      obtain ⟨c0, c1, c2, f0, f1, f2⟩ := cells_three Ho.out.p.box
      obtain ⟨y, hy⟩ : ∃ y, y = wordAt L a' := ⟨_, rfl⟩
      rw [← hy] at hw
      have Hy := Lib.hid hy
      clear hy
      go_wp2_with fail
      (with_reducible refine hw.mono ?_)
      clear hw
      rintro e w2 ⟨rfl, hc2⟩
      go_wp2_with fail
      (with_reducible refine (operator_any _ _).mono ?_)
      rintro e w3 ⟨hc3, k, l, rfl, hop⟩
      have Hf3 := Lib.hid (HF.out.chg (hc2.trans1 hc3).any)
      have Ho3 := Lib.hid (Ho.out.nob (hc2.trans1 hc3))
      have Hop : Hid (OpIs y k l) := hop
      clear hop hc2 hc3 c0 c1 c2 f0 f1 f2 HF Ho
      obtain ⟨c0, c1, c2, f0, f1, f2⟩ := cells_three Ho3.out.p.box
      by_cases hl : l = m
      · subst hl
        have Hopk : Hid (opOf n (wordAt L a') = some k) := (show opOf n (wordAt L a') = some k by rw [← Hy.out, Hop.out n hn, if_pos Hm.out])
        have hal : a' < L.length := wordAt_lt (opOf_ne Hopk.out)
        have Hlt : Hid (a < a') := Ho3.out.lt
        have ha'0 : (0 : Int) ≤ (a' : Int) := by omega
        have ha'i : (a' : Int) ≤ 5000 := by have := Ho3.out.p.len; omega
        have HP4 := Lib.hid (Ho3.out.p.setAt (a' + 1) ((a' : Int) + 1) (by omega))
        have Hc4 : Hid (Chg (At1 pb) w3 (w3.setCell ⟨pb, 1, none⟩ (.int .i64 ((a' : Int) + 1)))) := ((Chg.refl (At1 pb) _).setCell (p := ⟨pb, 1, none⟩) (fun _ => rfl) _)
        have Hf4 := Lib.hid (Hf3.out.chg Hc4.out)
        have HP5 := Lib.hid (HP4.out.nob ((Chg.refl Nob _).alloc (.cells #[.int .i64 0, .string ⟨#[]⟩, .slice none 0 0] 37)))
        have hcall := HL.out (a' + 1) (by have := Hlt.out; omega) hal (l + 1) _ (by have := Hm.out; omega) HP5.out
        have Hcall := Lib.hid hcall
        clear hcall
        have hE4 := World.size_setCell w3 ⟨pb, 1, none⟩ (.int .i64 ((a' : Int) + 1))
        have HE4 := Lib.hid hE4
        clear hE4
        have Hc5 := Lib.hid (Hc4.out.trans1 (((Chg.refl Nob _).alloc (.cells #[.int .i64 0, .string ⟨#[]⟩, .slice none 0 0] 37)).any))
        have Hb5 := Lib.hid (heap_alloc_new (w3.setCell ⟨pb, 1, none⟩ (.int .i64 ((a' : Int) + 1))) (.cells #[.int .i64 0, .string ⟨#[]⟩, .slice none 0 0] 37))
        have Hs5 := Lib.hid (World.size_alloc (w3.setCell ⟨pb, 1, none⟩ (.int .i64 ((a' : Int) + 1))) (.cells #[.int .i64 0, .string ⟨#[]⟩, .slice none 0 0] 37))
        rw [HE4.out] at Hb5 Hs5
        rcases Hm23.out with rfl | rfl
        all_goals
          go_wp2_with fail
          generalize (w3.setCell ⟨pb, 1, none⟩ (.int .i64 ((a' : Int) + 1))).alloc (.cells #[.int .i64 0, .string ⟨#[]⟩, .slice none 0 0] 37) = w5 at *
          clear HP4 Hc4 Hf4 HP5 HE4
          have hcall := Hcall.out
          simp only [Int.reduceAdd] at hcall
          (with_reducible refine hcall.mono ?_)
          clear hcall Hcall c0 c1 c2 f0 f1 f2
          rintro e w6 ⟨hc6, out, k1, nm1, ao1, len1, cap1, a2, hG6, rfl, hR6⟩
          have HR6 := Lib.hid hR6
          have HG6 := Lib.hid hG6
          have Hc36 := Lib.hid (Hc5.out.trans1 hc6)
          have Hb6 := Lib.hid (hc6.at Hb5.out (fun e => by have e : w3.heap.size = pb := e; have := Hf3.out.lt; have := Hf3.out.dl; omega))
          have Hf6 := Lib.hid (Hf3.out.chg Hc36.out)
          have Hs6 := Lib.hid hc6.size
          clear hG6 hR6 hc6 Hb5
          have hBD : w.heap.size < D := Hf3.out.dl.1
          have hDE : D < w3.heap.size := Hf3.out.dl.2
          have hE6 : w3.heap.size < w6.heap.size := by have := Hs5.out; have := Hs6.out; omega
          obtain ⟨d0, d1, d2, g0, g1, g2⟩ := cells_three Hf6.out.b
          obtain ⟨e0, e1, e2, h0, h1, h2⟩ := cells_three Hf6.out.d
          obtain ⟨b0, b1, b2, i0, i1, i2⟩ := cells_three Hb6.out
          clear hal Hlt ha'0 ha'i
          obtain ⟨E, hEe⟩ : ∃ E, w3.heap.size = E := ⟨_, rfl⟩
          rw [hEe] at hDE hE6 b0 b1 b2 i0 i1 i2
          rw [hEe] at Hb6 Hs5
          rw [hEe]
          have HEe := Lib.hid hEe
          clear hEe
          have hc7 := chg_three w6 E (.int .i64 k1) (.string nm1) (.slice ao1 len1 cap1)
          have hs7 : (((w6.setCell ⟨E, 0, none⟩ (.int .i64 k1)).setCell ⟨E, 1, none⟩ (.string nm1)).setCell ⟨E, 2, none⟩ (.slice ao1 len1 cap1)).heap.size = w6.heap.size := by rw [World.size_setCell, World.size_setCell, World.size_setCell]
          have Hc8 := Lib.hid (hc7.trans1 (((Chg.refl Nob _).alloc (.cells #[.int .i64 k0, .string nm, .slice ao len cap, .int .i64 k1, .string nm1, .slice ao1 len1 cap1] 37)).any))
          have hF8 := heap_alloc_new (((w6.setCell ⟨E, 0, none⟩ (.int .i64 k1)).setCell ⟨E, 1, none⟩ (.string nm1)).setCell ⟨E, 2, none⟩ (.slice ao1 len1 cap1)) (.cells #[.int .i64 k0, .string nm, .slice ao len cap, .int .i64 k1, .string nm1, .slice ao1 len1 cap1] 37)
          rw [hs7] at hF8
          have HF8 := Lib.hid hF8
          have HD8 := Lib.hid (Hc8.out.at Hf6.out.d (fun e => by have e : D = E := e; omega))
          have HB8 := Lib.hid (Hc8.out.at Hf6.out.b (fun e => by have e : w.heap.size = E := e; omega))
          clear hc7 hs7 hF8
          obtain ⟨p0, p1, p2, q0, q1, q2⟩ := cells_three HD8.out
          obtain ⟨s0, s1, s2, t0, t1, t2⟩ := cells_three HB8.out
          have HRg : Hid (Rg pb g v L N (n + 1) w D E w6.heap.size a' a2 out k k0 k1 nm nm1 ao len cap ao1 len1 cap1 w3 w6 (((((((w6.setCell ⟨E, 0, none⟩ (.int .i64 k1)).setCell ⟨E, 1, none⟩ (.string nm1)).setCell ⟨E, 2, none⟩ (.slice ao1 len1 cap1)).alloc (.cells #[.int .i64 k0, .string nm, .slice ao len cap, .int .i64 k1, .string nm1, .slice ao1 len1 cap1] 37)).setCell ⟨D, 0, none⟩ (.int .i64 k)).setCell ⟨D, 1, none⟩ (.string ⟨#[]⟩)).setCell ⟨D, 2, none⟩ (.slice (some ⟨w6.heap.size, 0, none⟩) 2 2))) :=
            rg_mk Hc36.out (Nat.le_of_eq HEe.out) hDE HG6.out (by rw [← Hs5.out]; exact HR6.out) hE6 Hc8.out HD8.out HF8.out
          have Hlt : Hid (a' ≤ L.length) := Ho3.out.le
          have Hnext := Lib.hid (HRg.out.left Hf3.out Ho3.out hlf Hopk.out)
          have Hf9 := Lib.hid (Rg.fo Hf3.out HRg.out)
          go_wp2
          generalize (((((((w6.setCell ⟨E, 0, none⟩ (.int .i64 k1)).setCell ⟨E, 1, none⟩ (.string nm1)).setCell ⟨E, 2, none⟩ (.slice ao1 len1 cap1)).alloc (.cells #[.int .i64 k0, .string nm, .slice ao len cap, .int .i64 k1, .string nm1, .slice ao1 len1 cap1] 37)).setCell ⟨D, 0, none⟩ (.int .i64 k)).setCell ⟨D, 1, none⟩ (.string ⟨#[]⟩)).setCell ⟨D, 2, none⟩ (.slice (some ⟨w6.heap.size, 0, none⟩) 2 2)) = w9 at *
          rcases Hnext.out with ⟨t2, hlt2, h2⟩ | ⟨j2, y2, h2⟩
          · have Hlt2 := Lib.hid hlt2
            have Ho9 := Lib.hid h2
            clear hlt2 h2
            go_roundg (L.length + 1 - a2)
            case measure => have := Hlt2.out; have := Hlt.out; omega
            case rel => exact ⟨_, _, _, _, _, Hf9, .inl ⟨t2, a2, Nat.le_refl _, Ho9⟩⟩
          · have HB9 := Lib.hid h2
            clear h2
            go_roundg (L.length - a')
            case measure => have := Hlt.out; omega
            case rel => exact ⟨_, _, _, _, _, Hf9, .inr ⟨j2, y2, a2, HB9⟩⟩
      · have Hopn : Hid (opOf n (wordAt L a') = none) := (show opOf n (wordAt L a') = none by rw [← Hy.out, Hop.out n hn, if_neg (by rw [← Hm.out]; exact hl)])
        have hlm : (l != m) = true := by simpa using hl
        have Hpost := Lib.hid (Hf3.out.stop Ho3.out hn Hopn.out)
        obtain ⟨d0, d1, d2, g0, g1, g2⟩ := cells_three Hf3.out.b
        obtain ⟨e0, e1, e2, _⟩ := cells_three Hf3.out.d
        obtain ⟨r0, r1, r2, _⟩ := cells_three (block_three_all Hf3.out.b (.int .i64 k0) (.string nm) (.slice ao len cap))
        have Hr := Lib.hid (And.intro r0 (And.intro r1 r2))
        clear r0 r1 r2 c0 c1 c2 f0 f1 f2
        go_wp2
        obtain ⟨r0, r1, r2⟩ := Hr.out
        exact bodyPost_ret (v := .agg #[.int .i64 k0, .string nm, .slice ao len cap]) (by simp [results, Try.results48, go_sem, r0, r1, r2]) rfl Hpost.out
    · obtain ⟨j, y, a', HB⟩ := hbad
      have hji : ¬ (j : Int) < 0 := by omega
      have Hpost := Lib.hid (HF.out.bad HB.out)
      obtain ⟨c0, c1, c2, f0, f1, f2⟩ := cells_three HB.out.p.box
      obtain ⟨d0, d1, d2, g0, g1, g2⟩ := cells_three HF.out.b
      obtain ⟨e0, e1, e2, _⟩ := cells_three HF.out.d
      obtain ⟨r0, r1, r2, _⟩ := cells_three (block_three_all HF.out.b (.int .i64 k0) (.string nm) (.slice ao len cap))
      have Hr := Lib.hid (And.intro r0 (And.intro r1 r2))
      clear r0 r1 r2
      go_wp2
      obtain ⟨r0, r1, r2⟩ := Hr.out
      exact bodyPost_ret (v := .agg #[.int .i64 k0, .string nm, .slice ao len cap]) (by simp [results, Try.results48, go_sem, r0, r1, r2]) rfl Hpost.out

theorem rlevels_any {pb g : Nat} {v : Value} {L : List Tok} {N a : Nat} (ha : a ≤ L.length) (hp : PreC pb g v L N a) (hs : ∀ n, n ≤ 5 → ∀ a1, a < a1 → a1 ≤ L.length → ForC pb g v L N n a1) : ∀ n, n ≤ 5 → ForC pb g v L N n a := by
  have h5 : ForC pb g v L N 5 a := formula5 hp
  have h4 : ForC pb g v L N 4 a := formula_right (n := 4) (by omega) rfl ha h5 (hs 4 (by omega))
  have h3 : ForC pb g v L N 3 a := formula_left (n := 3) (by omega) rfl ha h4 (hs 4 (by omega))
  have h2 : ForC pb g v L N 2 a := formula_left (n := 2) (by omega) rfl ha h3 (hs 3 (by omega))
  have h1 : ForC pb g v L N 1 a := formula_right (n := 1) (by omega) rfl ha h2 (hs 1 (by omega))
  have h0 : ForC pb g v L N 0 a := formula_right (n := 0) (by omega) rfl ha h1 (hs 0 (by omega))
  intro n hn
  match n, hn with
  | 0, _ => exact h0
  | 1, _ => exact h1
  | 2, _ => exact h2
  | 3, _ => exact h3
  | 4, _ => exact h4
  | 5, _ => exact h5
  | n + 6, hn => omega
/-- Every level reads what the grammar says. -/
theorem parser_any {pb g : Nat} {v : Value} {L : List Tok} {N : Nat} : ∀ q a, a ≤ L.length → L.length - a ≤ q → PreC pb g v L N a ∧ ∀ n, n ≤ 5 → ForC pb g v L N n a := by
  intro q
  induction q with
  | zero =>
    intro a ha hq
    have hp : PreC pb g v L N a := prefixed_any ha (fun h => absurd h (by omega)) (fun h => absurd h (by omega))
    exact ⟨hp, rlevels_any ha hp (fun n _ a1 h1 h2 => absurd h1 (by omega))⟩
  | succ q ih =>
    intro a ha hq
    have hp : PreC pb g v L N a := prefixed_any ha (fun h => (ih (a + 1) h (by omega)).1) (fun h => (ih (a + 1) h (by omega)).2 0 (by omega))
    exact ⟨hp, rlevels_any ha hp (fun n hn a1 h1 h2 => (ih a1 h2 (by omega)).2 n hn)⟩
theorem formula_any {pb g : Nat} {v : Value} {L : List Tok} {N a : Nat} (ha : a ≤ L.length) : ForC pb g v L N 0 a := (parser_any (L.length - a) a ha (Nat.le_refl _)).2 0 (by omega)
end Go.Proofs.Ytkgfdgfhpdhhaaa
