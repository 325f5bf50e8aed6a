/- The reference's parser: a formula that begins with a sign, a word or a parenthesis. Conditions: its words lie in the world. -/
import Derived.Test.YtkgfdgfhpdhhaaaRpar
namespace Go.Proofs.Ytkgfdgfhpdhhaaa
open Go.ChangeShapes Go.WideShapes Go.RowKit

/-- The words and the end. -/
def MM (L : List Tok) (N : Nat) : List Tok := L ++ [([], N)]
/-- What the parser leaves. -/
def ROut (lo : Nat) (w' : World) (pb g : Nat) (v : Value) (L : List Tok) (N a a' : Nat) (val : Value) : Out → Prop
  | .ok t rest => a' ≤ L.length ∧ rest = (MM L N).drop a' ∧ Fresh (Ge lo) w' t val ∧ Pz w' pb g v L a' (-1)
  | .err x => ∃ (j : Nat) (y : Tok), (MM L N)[j]? = some y ∧ x = wrongAt y ∧ a' + a ≤ 2 * L.length + 1 ∧ Pz w' pb g v L a' (j : Int)
theorem ROut.chg {S : Nat → Prop} {lo lo' : Nat} {w w' : World} {pb g : Nat} {v : Value} {L : List Tok} {N a a' : Nat} {val : Value} {o : Out} (h : ROut lo w pb g v L N a a' val o) (hc : Chg S w w') (h1 : ¬ S pb) (h2 : ¬ S g) (h3 : ∀ b, lo ≤ b → ¬ S b) (hl : lo' ≤ lo) : ROut lo' w' pb g v L N a a' val o := by
  cases o with
  | ok t rest => exact ⟨h.1, h.2.1, h.2.2.1.chg hc (fun b hb _ => h3 b hb) (fun b hb => Nat.le_trans hl hb), h.2.2.2.chg hc h1 h2⟩
  | err x =>
    obtain ⟨j, y, e1, e2, e3, e4⟩ := h
    exact ⟨j, y, e1, e2, e3, e4.chg hc h1 h2⟩
def RPost (pb g : Nat) (v : Value) (L : List Tok) (N n a : Nat) (w : World) (e : Ending) (w' : World) : Prop :=
  Chg (At1 pb) w w' ∧ ∃ out k0 nm ao len cap a', G (.lev n) ((MM L N).drop a) out ∧ e = .returned (.agg #[.int .i64 k0, .string nm, .slice ao len cap]) ∧ ROut w.heap.size w' pb g v L N a a' (.agg #[.int .i64 k0, .string nm, .slice ao len cap]) out
def PreC (pb g : Nat) (v : Value) (L : List Tok) (N a : Nat) : Prop := ∀ w, Pz w pb g v L a (-1) → Calls Try.prog 74 #[.pointer (some ⟨pb, 0, none⟩)] w (RPost pb g v L N 5 a w)
def ForC (pb g : Nat) (v : Value) (L : List Tok) (N n a : Nat) : Prop := ∀ (m : Int) (w : World), m = (n : Int) → Pz w pb g v L a (-1) → Calls Try.prog 48 #[.pointer (some ⟨pb, 0, none⟩), .int .i64 m] w (RPost pb g v L N n a w)
def box0 : Obj := .cells #[.int .i64 0, .string ⟨#[]⟩, .slice none 0 0] 37
/-- What holds while a result's box waits. -/
structure Pw (pb : Nat) (w W : World) : Prop where
  lt : pb < w.heap.size
  c : Chg (At1 pb) w W
  s : w.heap.size + 1 ≤ W.heap.size
  b : W.heap[w.heap.size]? = some (.cells #[.int .i64 0, .string ⟨#[]⟩, .slice none 0 0] 37 (0, 0))
theorem Pw.first {pb : Nat} (w : World) (h : pb < w.heap.size) : Pw pb w (w.alloc (.cells #[.int .i64 0, .string ⟨#[]⟩, .slice none 0 0] 37)) :=
  ⟨h, (Chg.refl _ _).alloc _, by rw [World.size_alloc]; exact Nat.le_refl _, heap_alloc_new _ _⟩
theorem Pw.chg {pb : Nat} {w W W' : World} (h : Pw pb w W) (hc : Chg (At1 pb) W W') : Pw pb w W' := by
  have := h.lt
  have := h.s
  exact ⟨h.lt, h.c.trans1 hc, Nat.le_trans h.s hc.size, hc.at h.b (fun e => by have e : w.heap.size = pb := e; omega)⟩
theorem Pw.nob {pb : Nat} {w W W' : World} (h : Pw pb w W) (hc : Chg Nob W W') : Pw pb w W' := h.chg hc.any
theorem Pw.fin {pb g : Nat} {v : Value} {L : List Tok} {N n a a' : Nat} {w W : World} {k0 : Int} {nm : ByteArray} {ao : Option Addr} {len cap : Nat} {out : Out} (h : Pw pb w W) (hg : g < w.heap.size) (hG : G (.lev n) ((MM L N).drop a) out)
    (hR : ROut (w.heap.size + 1) W pb g v L N a a' (.agg #[.int .i64 k0, .string nm, .slice ao len cap]) out) :
    RPost pb g v L N n a w (.returned (.agg #[.int .i64 k0, .string nm, .slice ao len cap])) (((W.setCell ⟨w.heap.size, 0, none⟩ (.int .i64 k0)).setCell ⟨w.heap.size, 1, none⟩ (.string nm)).setCell ⟨w.heap.size, 2, none⟩ (.slice ao len cap)) := by
  have hlt := h.lt
  have k3 := chg_three W w.heap.size (.int .i64 k0) (.string nm) (.slice ao len cap)
  refine ⟨h.c.trans k3 (fun i hi e => by have e : i = w.heap.size := e; omega), out, k0, nm, ao, len, cap, a', hG, rfl, hR.chg k3 (fun e => ?_) (fun e => ?_) (fun b hb e => ?_) (Nat.le_succ _)⟩
  · have e : pb = w.heap.size := e
    omega
  · have e : g = w.heap.size := e
    omega
  · have e : b = w.heap.size := e
    omega
theorem ROut.err_up {lo lo' : Nat} {w' : World} {pb g : Nat} {v : Value} {L : List Tok} {N a a' : Nat} {val val' : Value} {x : Int × Nat} (h : ROut lo w' pb g v L N (a + 1) a' val (.err x)) : ROut lo' w' pb g v L N a a' val' (.err x) := by
  obtain ⟨j, y, e1, e2, e3, e4⟩ := h
  exact ⟨j, y, e1, e2, by omega, e4⟩
theorem Fresh.one {lo : Nat} {W : World} {b : Nat} {u : T} {b0 b1 b2 : Value} {k : Int} (hb : W.heap[b]? = some (.cells #[b0, b1, b2] 37 (0, 0))) (hlo : lo ≤ b) (hF : Fresh (Ge lo) W u (.agg #[b0, b1, b2])) : Fresh (Ge lo) W (one k u) (.agg #[.int .i64 k, .string ⟨#[]⟩, .slice (some ⟨b, 0, none⟩) 1 1]) := by
  unfold Go.Proofs.Ytkgfdgfhpdhhaaa.one
  rw [Fresh]
  refine .inr ⟨b, _, hlo, rfl, hb, by simp, ?_⟩
  rw [FreshL, FreshL]
  exact ⟨hF, trivial⟩
theorem leafFresh (R : Nat → Prop) (W : World) (k : Int) (nm : List UInt8) : Fresh R W (.node k nm []) (.agg #[.int .i64 k, .string ⟨nm.toArray⟩, .slice none 0 0]) := by
  rw [Fresh]
  exact .inl ⟨rfl, rfl⟩
theorem row_last {w : World} (o : Obj) (a b c : Value) : ((w.alloc o).alloc (.cells #[a, b, c] 37)).heap[w.heap.size + 1]? = some (.cells #[a, b, c] 37 (0, 0)) := by
  have := heap_alloc_new (w.alloc o) (.cells #[a, b, c] 37)
  rwa [World.size_alloc] at this

section
variable {pb g : Nat} {v : Value} {L : List Tok} {N a a' : Nat} {w w3 w4 : World} {tok : Tok} {k k0 : Int} {nm : ByteArray} {ao : Option Addr} {len cap : Nat} {out : Out}
theorem pre_end (hd : (MM L N).drop a = tok :: (MM L N).drop (a + 1)) (hk : preOf tok.1 = some k) (hg : g < w.heap.size)
    (h6 : Pw pb w ((w4.alloc (.cells #[.int .i64 k0, .string nm, .slice ao len cap] 37)).alloc (.cells #[.int .i64 k0, .string nm, .slice ao len cap] 37))) (hs3 : w.heap.size + 1 ≤ w3.heap.size) (hs4 : w3.heap.size ≤ w4.heap.size)
    (hG : G (.lev 5) ((MM L N).drop (a + 1)) out) (hR : ROut w3.heap.size w4 pb g v L N (a + 1) a' (.agg #[.int .i64 k0, .string nm, .slice ao len cap]) out) :
    RPost pb g v L N 5 a w (.returned (.agg #[.int .i64 k, .string ⟨#[]⟩, .slice (some ⟨w4.heap.size + 1, 0, none⟩) 1 1])) (((((w4.alloc (.cells #[.int .i64 k0, .string nm, .slice ao len cap] 37)).alloc (.cells #[.int .i64 k0, .string nm, .slice ao len cap] 37)).setCell ⟨w.heap.size, 0, none⟩ (.int .i64 k)).setCell ⟨w.heap.size, 1, none⟩ (.string ⟨#[]⟩)).setCell ⟨w.heap.size, 2, none⟩ (.slice (some ⟨w4.heap.size + 1, 0, none⟩) 1 1)) := by
  have hcA : Chg Nob w4 ((w4.alloc (.cells #[.int .i64 k0, .string nm, .slice ao len cap] 37)).alloc (.cells #[.int .i64 k0, .string nm, .slice ao len cap] 37)) := ((Chg.refl _ _).alloc _).alloc _
  have hR6 := hR.chg hcA (fun e => e) (fun e => e) (fun _ _ e => e) (lo' := w.heap.size + 1) hs3
  cases out with
  | err y => exact h6.fin hg (by rw [hd]; exact .pre_err hk hG) hR6.err_up
  | ok u rest =>
    obtain ⟨q1, rfl, q3, q4⟩ := hR6
    refine h6.fin (a' := a') (out := .ok (one k u) ((MM L N).drop a')) hg (by rw [hd]; exact .pre hk hG) ⟨q1, rfl, Fresh.one (row_last _ _ _ _) (by omega) q3, q4⟩
theorem leaf_end {nm : List UInt8} (hd : (MM L N).drop a = tok :: (MM L N).drop (a + 1)) (hk : preOf tok.1 = none) (ht : atomOf tok.1 = some (.node k nm [])) (hg : g < w.heap.size) (h3 : Pw pb w w3) (hal : a < L.length) (hP : Pz w3 pb g v L (a + 1) (-1)) :
    RPost pb g v L N 5 a w (.returned (.agg #[.int .i64 k, .string ⟨nm.toArray⟩, .slice none 0 0])) (((w3.setCell ⟨w.heap.size, 0, none⟩ (.int .i64 k)).setCell ⟨w.heap.size, 1, none⟩ (.string ⟨nm.toArray⟩)).setCell ⟨w.heap.size, 2, none⟩ (.slice none 0 0)) :=
  h3.fin (a' := a + 1) (out := .ok (.node k nm []) ((MM L N).drop (a + 1))) hg (by rw [hd]; exact .atom hk ht) ⟨hal, rfl, leafFresh _ _ _ _, hP⟩
end

set_option maxRecDepth 100000 in
set_option maxHeartbeats 16000000 in
theorem prefixed_any {pb g : Nat} {v : Value} {L : List Tok} {N a : Nat} (ha : a ≤ L.length) (h5 : a < L.length → PreC pb g v L N (a + 1)) (h0 : a < L.length → ForC pb g v L N 0 (a + 1)) : PreC pb g v L N a := by
  intro w hP
  have hpb := (Array.getElem?_eq_some_iff.1 hP.box).1
  have hgl := hP.gl
  obtain ⟨tok, htk, hx, hdrop⟩ := wordAt_at (L := L) (a := a) N ha
  have hlen := hP.len
  obtain ⟨x, hxe⟩ : ∃ x, x = wordAt L a := ⟨_, rfl⟩
  have Hlt : Hid (x ≠ [] → a < L.length) := (show x ≠ [] → a < L.length from fun h => wordAt_lt (hxe ▸ h))
  have Hdrop : Hid ((MM L N).drop a = tok :: (MM L N).drop (a + 1)) := (show (MM L N).drop a = tok :: (MM L N).drop (a + 1) from hdrop)
  have Hx : Hid (tok.1 = x) := (show tok.1 = x by rw [hx, hxe])
  have Htk : Hid ((MM L N)[a]? = some tok) := (show (MM L N)[a]? = some tok from htk)
  have hw1 := Pw.first w hpb
  have hP1 := hP.nob ((Chg.refl Nob w).alloc (.cells #[.int .i64 0, .string ⟨#[]⟩, .slice none 0 0] 37))
  have hw := word_any hP1 (by omega)
  rw [← hxe] at hw
  have H5 := Lib.hid h5
  have H0 := Lib.hid h0
  have HP1 := Lib.hid hP1
  have Hw1 := Lib.hid hw1
  clear hdrop hx htk hxe h5 h0 hP hP1 hw1
  go_enter Try.func74, Try.ntmps74
  go_wp2_with fail
  (with_reducible refine hw.mono ?_)
  clear hw
  rintro e w2 ⟨rfl, hc2⟩
  have HP2 := Lib.hid (HP1.out.nob hc2)
  have Hw2 := Lib.hid (Hw1.out.nob hc2)
  clear hc2 HP1 Hw1
  obtain ⟨c0, c1, c2, f0, f1, f2⟩ := cells_three HP2.out.box
  have hai : (a : Int) + 1 ≤ 5001 := by omega
  have ha0 : (0 : Int) ≤ (a : Int) := by omega
  cases hs0 : (x == [33]) with
  | true =>
    obtain rfl : x = [33] := beq_iff_eq.1 hs0
    clear hs0
    have hal := Hlt.out (by simp)
    have HP3 := Lib.hid (HP2.out.setAt (a + 1) ((a : Int) + 1) (by omega))
    have Hc3 : Hid (Chg (At1 pb) w2 (w2.setCell ⟨pb, 1, none⟩ (.int .i64 ((a : Int) + 1)))) := ((Chg.refl (At1 pb) w2).setCell (p := ⟨pb, 1, none⟩) (fun _ => rfl) _)
    have Hw3 := Lib.hid (Hw2.out.chg Hc3.out)
    have hcall := H5.out hal _ HP3.out
    go_wp2_with fail
    generalize w2.setCell ⟨pb, 1, none⟩ (.int .i64 ((a : Int) + 1)) = w3 at *
    (with_reducible refine hcall.mono ?_)
    clear hcall
    rintro e w4 ⟨hc4, out, k0, nm, ao, len, cap, a', hG, rfl, hR⟩
    have Hw4 := Lib.hid (Hw3.out.chg hc4)
    have Hw6 := Lib.hid (Hw4.out.nob (((Chg.refl Nob w4).alloc (.cells #[.int .i64 k0, .string nm, .slice ao len cap] 37)).alloc (.cells #[.int .i64 k0, .string nm, .slice ao len cap] 37)))
    have Hpost : Hid (RPost pb g v L N 5 a w (.returned (.agg #[.int .i64 4, .string ⟨#[]⟩, .slice (some ⟨w4.heap.size + 1, 0, none⟩) 1 1])) (((((w4.alloc (.cells #[.int .i64 k0, .string nm, .slice ao len cap] 37)).alloc (.cells #[.int .i64 k0, .string nm, .slice ao len cap] 37)).setCell ⟨w.heap.size, 0, none⟩ (.int .i64 4)).setCell ⟨w.heap.size, 1, none⟩ (.string ⟨#[]⟩)).setCell ⟨w.heap.size, 2, none⟩ (.slice (some ⟨w4.heap.size + 1, 0, none⟩) 1 1))) := pre_end Hdrop.out (by rw [Hx.out]; rfl) hgl Hw6.out (Nat.le_trans Hw3.out.s (Nat.le_refl _)) hc4.size hG hR
    obtain ⟨d0, d1, d2, g0, g1, g2⟩ := cells_three Hw6.out.b
    obtain ⟨e0, e1, e2, _⟩ := cells_three (heap_alloc_new w4 (.cells #[.int .i64 k0, .string nm, .slice ao len cap] 37))
    obtain ⟨r0, r1, r2, _⟩ := cells_three (block_three_all Hw6.out.b (.int .i64 4) (.string ⟨#[]⟩) (.slice (some ⟨w4.heap.size + 1, 0, none⟩) 1 1))
    have Hr := Lib.hid (And.intro r0 (And.intro r1 r2))
    clear hG hR hc4 r0 r1 r2 c0 c1 c2 f0 f1 f2
    go_wp2
    obtain ⟨r0, r1, r2⟩ := Hr.out
    exact bodyPost_ret (v := .agg #[.int .i64 4, .string ⟨#[]⟩, .slice (some ⟨w4.heap.size + 1, 0, none⟩) 1 1]) (by simp [results, Try.results74, go_sem, r0, r1, r2]) rfl Hpost.out
  | false =>
    cases hs1 : (x == [88]) with
    | true =>
      obtain rfl : x = [88] := beq_iff_eq.1 hs1
      clear hs1
      have hal := Hlt.out (by simp)
      have HP3 := Lib.hid (HP2.out.setAt (a + 1) ((a : Int) + 1) (by omega))
      have Hc3 : Hid (Chg (At1 pb) w2 (w2.setCell ⟨pb, 1, none⟩ (.int .i64 ((a : Int) + 1)))) := ((Chg.refl (At1 pb) w2).setCell (p := ⟨pb, 1, none⟩) (fun _ => rfl) _)
      have Hw3 := Lib.hid (Hw2.out.chg Hc3.out)
      have hcall := H5.out hal _ HP3.out
      go_wp2_with fail
      generalize w2.setCell ⟨pb, 1, none⟩ (.int .i64 ((a : Int) + 1)) = w3 at *
      (with_reducible refine hcall.mono ?_)
      clear hcall
      rintro e w4 ⟨hc4, out, k0, nm, ao, len, cap, a', hG, rfl, hR⟩
      have Hw4 := Lib.hid (Hw3.out.chg hc4)
      have Hw6 := Lib.hid (Hw4.out.nob (((Chg.refl Nob w4).alloc (.cells #[.int .i64 k0, .string nm, .slice ao len cap] 37)).alloc (.cells #[.int .i64 k0, .string nm, .slice ao len cap] 37)))
      have Hpost : Hid (RPost pb g v L N 5 a w (.returned (.agg #[.int .i64 5, .string ⟨#[]⟩, .slice (some ⟨w4.heap.size + 1, 0, none⟩) 1 1])) (((((w4.alloc (.cells #[.int .i64 k0, .string nm, .slice ao len cap] 37)).alloc (.cells #[.int .i64 k0, .string nm, .slice ao len cap] 37)).setCell ⟨w.heap.size, 0, none⟩ (.int .i64 5)).setCell ⟨w.heap.size, 1, none⟩ (.string ⟨#[]⟩)).setCell ⟨w.heap.size, 2, none⟩ (.slice (some ⟨w4.heap.size + 1, 0, none⟩) 1 1))) := pre_end Hdrop.out (by rw [Hx.out]; rfl) hgl Hw6.out (Nat.le_trans Hw3.out.s (Nat.le_refl _)) hc4.size hG hR
      obtain ⟨d0, d1, d2, g0, g1, g2⟩ := cells_three Hw6.out.b
      obtain ⟨e0, e1, e2, _⟩ := cells_three (heap_alloc_new w4 (.cells #[.int .i64 k0, .string nm, .slice ao len cap] 37))
      obtain ⟨r0, r1, r2, _⟩ := cells_three (block_three_all Hw6.out.b (.int .i64 5) (.string ⟨#[]⟩) (.slice (some ⟨w4.heap.size + 1, 0, none⟩) 1 1))
      have Hr := Lib.hid (And.intro r0 (And.intro r1 r2))
      clear hG hR hc4 r0 r1 r2 c0 c1 c2 f0 f1 f2
      go_wp2
      obtain ⟨r0, r1, r2⟩ := Hr.out
      exact bodyPost_ret (v := .agg #[.int .i64 5, .string ⟨#[]⟩, .slice (some ⟨w4.heap.size + 1, 0, none⟩) 1 1]) (by simp [results, Try.results74, go_sem, r0, r1, r2]) rfl Hpost.out
    | false =>
      cases hs2 : (x == [91, 93]) with
      | true =>
        obtain rfl : x = [91, 93] := beq_iff_eq.1 hs2
        clear hs2
        have hal := Hlt.out (by simp)
        have HP3 := Lib.hid (HP2.out.setAt (a + 1) ((a : Int) + 1) (by omega))
        have Hc3 : Hid (Chg (At1 pb) w2 (w2.setCell ⟨pb, 1, none⟩ (.int .i64 ((a : Int) + 1)))) := ((Chg.refl (At1 pb) w2).setCell (p := ⟨pb, 1, none⟩) (fun _ => rfl) _)
        have Hw3 := Lib.hid (Hw2.out.chg Hc3.out)
        have hcall := H5.out hal _ HP3.out
        go_wp2_with fail
        generalize w2.setCell ⟨pb, 1, none⟩ (.int .i64 ((a : Int) + 1)) = w3 at *
        (with_reducible refine hcall.mono ?_)
        clear hcall
        rintro e w4 ⟨hc4, out, k0, nm, ao, len, cap, a', hG, rfl, hR⟩
        have Hw4 := Lib.hid (Hw3.out.chg hc4)
        have Hw6 := Lib.hid (Hw4.out.nob (((Chg.refl Nob w4).alloc (.cells #[.int .i64 k0, .string nm, .slice ao len cap] 37)).alloc (.cells #[.int .i64 k0, .string nm, .slice ao len cap] 37)))
        have Hpost : Hid (RPost pb g v L N 5 a w (.returned (.agg #[.int .i64 6, .string ⟨#[]⟩, .slice (some ⟨w4.heap.size + 1, 0, none⟩) 1 1])) (((((w4.alloc (.cells #[.int .i64 k0, .string nm, .slice ao len cap] 37)).alloc (.cells #[.int .i64 k0, .string nm, .slice ao len cap] 37)).setCell ⟨w.heap.size, 0, none⟩ (.int .i64 6)).setCell ⟨w.heap.size, 1, none⟩ (.string ⟨#[]⟩)).setCell ⟨w.heap.size, 2, none⟩ (.slice (some ⟨w4.heap.size + 1, 0, none⟩) 1 1))) := pre_end Hdrop.out (by rw [Hx.out]; rfl) hgl Hw6.out (Nat.le_trans Hw3.out.s (Nat.le_refl _)) hc4.size hG hR
        obtain ⟨d0, d1, d2, g0, g1, g2⟩ := cells_three Hw6.out.b
        obtain ⟨e0, e1, e2, _⟩ := cells_three (heap_alloc_new w4 (.cells #[.int .i64 k0, .string nm, .slice ao len cap] 37))
        obtain ⟨r0, r1, r2, _⟩ := cells_three (block_three_all Hw6.out.b (.int .i64 6) (.string ⟨#[]⟩) (.slice (some ⟨w4.heap.size + 1, 0, none⟩) 1 1))
        have Hr := Lib.hid (And.intro r0 (And.intro r1 r2))
        clear hG hR hc4 r0 r1 r2 c0 c1 c2 f0 f1 f2
        go_wp2
        obtain ⟨r0, r1, r2⟩ := Hr.out
        exact bodyPost_ret (v := .agg #[.int .i64 6, .string ⟨#[]⟩, .slice (some ⟨w4.heap.size + 1, 0, none⟩) 1 1]) (by simp [results, Try.results74, go_sem, r0, r1, r2]) rfl Hpost.out
      | false =>
        cases hs3 : (x == [60, 62]) with
        | true =>
          obtain rfl : x = [60, 62] := beq_iff_eq.1 hs3
          clear hs3
          have hal := Hlt.out (by simp)
          have HP3 := Lib.hid (HP2.out.setAt (a + 1) ((a : Int) + 1) (by omega))
          have Hc3 : Hid (Chg (At1 pb) w2 (w2.setCell ⟨pb, 1, none⟩ (.int .i64 ((a : Int) + 1)))) := ((Chg.refl (At1 pb) w2).setCell (p := ⟨pb, 1, none⟩) (fun _ => rfl) _)
          have Hw3 := Lib.hid (Hw2.out.chg Hc3.out)
          have hcall := H5.out hal _ HP3.out
          go_wp2_with fail
          generalize w2.setCell ⟨pb, 1, none⟩ (.int .i64 ((a : Int) + 1)) = w3 at *
          (with_reducible refine hcall.mono ?_)
          clear hcall
          rintro e w4 ⟨hc4, out, k0, nm, ao, len, cap, a', hG, rfl, hR⟩
          have Hw4 := Lib.hid (Hw3.out.chg hc4)
          have Hw6 := Lib.hid (Hw4.out.nob (((Chg.refl Nob w4).alloc (.cells #[.int .i64 k0, .string nm, .slice ao len cap] 37)).alloc (.cells #[.int .i64 k0, .string nm, .slice ao len cap] 37)))
          have Hpost : Hid (RPost pb g v L N 5 a w (.returned (.agg #[.int .i64 7, .string ⟨#[]⟩, .slice (some ⟨w4.heap.size + 1, 0, none⟩) 1 1])) (((((w4.alloc (.cells #[.int .i64 k0, .string nm, .slice ao len cap] 37)).alloc (.cells #[.int .i64 k0, .string nm, .slice ao len cap] 37)).setCell ⟨w.heap.size, 0, none⟩ (.int .i64 7)).setCell ⟨w.heap.size, 1, none⟩ (.string ⟨#[]⟩)).setCell ⟨w.heap.size, 2, none⟩ (.slice (some ⟨w4.heap.size + 1, 0, none⟩) 1 1))) := pre_end Hdrop.out (by rw [Hx.out]; rfl) hgl Hw6.out (Nat.le_trans Hw3.out.s (Nat.le_refl _)) hc4.size hG hR
          obtain ⟨d0, d1, d2, g0, g1, g2⟩ := cells_three Hw6.out.b
          obtain ⟨e0, e1, e2, _⟩ := cells_three (heap_alloc_new w4 (.cells #[.int .i64 k0, .string nm, .slice ao len cap] 37))
          obtain ⟨r0, r1, r2, _⟩ := cells_three (block_three_all Hw6.out.b (.int .i64 7) (.string ⟨#[]⟩) (.slice (some ⟨w4.heap.size + 1, 0, none⟩) 1 1))
          have Hr := Lib.hid (And.intro r0 (And.intro r1 r2))
          clear hG hR hc4 r0 r1 r2 c0 c1 c2 f0 f1 f2
          go_wp2
          obtain ⟨r0, r1, r2⟩ := Hr.out
          exact bodyPost_ret (v := .agg #[.int .i64 7, .string ⟨#[]⟩, .slice (some ⟨w4.heap.size + 1, 0, none⟩) 1 1]) (by simp [results, Try.results74, go_sem, r0, r1, r2]) rfl Hpost.out
        | false =>
          cases hs4 : (x == [116, 114, 117, 101]) with
          | true =>
            obtain rfl : x = [116, 114, 117, 101] := beq_iff_eq.1 hs4
            clear hs4
            have hal := Hlt.out (by simp)
            have HP3 := Lib.hid (HP2.out.setAt (a + 1) ((a : Int) + 1) (by omega))
            have Hc3 : Hid (Chg (At1 pb) w2 (w2.setCell ⟨pb, 1, none⟩ (.int .i64 ((a : Int) + 1)))) := ((Chg.refl (At1 pb) w2).setCell (p := ⟨pb, 1, none⟩) (fun _ => rfl) _)
            have Hw3 := Lib.hid (Hw2.out.chg Hc3.out)
            have Hpost := Lib.hid (leaf_end (k := 1) (nm := []) Hdrop.out (by rw [Hx.out]; rfl) (by rw [Hx.out]; rfl) hgl Hw3.out hal HP3.out)
            obtain ⟨d0, d1, d2, g0, g1, g2⟩ := cells_three Hw3.out.b
            obtain ⟨r0, r1, r2, _⟩ := cells_three (block_three_all Hw3.out.b (.int .i64 1) (.string ⟨#[]⟩) (.slice none 0 0))
            have Hr := Lib.hid (And.intro r0 (And.intro r1 r2))
            clear r0 r1 r2
            go_wp2
            obtain ⟨r0, r1, r2⟩ := Hr.out
            exact bodyPost_ret (v := .agg #[.int .i64 1, .string ⟨#[]⟩, .slice none 0 0]) (by simp [results, Try.results74, go_sem, r0, r1, r2]) rfl Hpost.out
          | false =>
            cases hs5 : (x == [102, 97, 108, 115, 101]) with
            | true =>
              obtain rfl : x = [102, 97, 108, 115, 101] := beq_iff_eq.1 hs5
              clear hs5
              have hal := Hlt.out (by simp)
              have HP3 := Lib.hid (HP2.out.setAt (a + 1) ((a : Int) + 1) (by omega))
              have Hc3 : Hid (Chg (At1 pb) w2 (w2.setCell ⟨pb, 1, none⟩ (.int .i64 ((a : Int) + 1)))) := ((Chg.refl (At1 pb) w2).setCell (p := ⟨pb, 1, none⟩) (fun _ => rfl) _)
              have Hw3 := Lib.hid (Hw2.out.chg Hc3.out)
              have Hpost := Lib.hid (leaf_end (k := 2) (nm := []) Hdrop.out (by rw [Hx.out]; rfl) (by rw [Hx.out]; rfl) hgl Hw3.out hal HP3.out)
              obtain ⟨d0, d1, d2, g0, g1, g2⟩ := cells_three Hw3.out.b
              obtain ⟨r0, r1, r2, _⟩ := cells_three (block_three_all Hw3.out.b (.int .i64 2) (.string ⟨#[]⟩) (.slice none 0 0))
              have Hr := Lib.hid (And.intro r0 (And.intro r1 r2))
              clear r0 r1 r2
              go_wp2
              obtain ⟨r0, r1, r2⟩ := Hr.out
              exact bodyPost_ret (v := .agg #[.int .i64 2, .string ⟨#[]⟩, .slice none 0 0]) (by simp [results, Try.results74, go_sem, r0, r1, r2]) rfl Hpost.out
            | false =>
              cases hs6 : (x == [40]) with
              | true =>
                obtain rfl : x = [40] := beq_iff_eq.1 hs6
                clear hs6
                have hal := Hlt.out (by simp)
                have HP3 := Lib.hid (HP2.out.setAt (a + 1) ((a : Int) + 1) (by omega))
                have Hc3 : Hid (Chg (At1 pb) w2 (w2.setCell ⟨pb, 1, none⟩ (.int .i64 ((a : Int) + 1)))) := ((Chg.refl (At1 pb) w2).setCell (p := ⟨pb, 1, none⟩) (fun _ => rfl) _)
                have Hw3 := Lib.hid (Hw2.out.chg Hc3.out)
                have hcall := H0.out hal 0 _ rfl HP3.out
                go_wp2_with fail
                generalize w2.setCell ⟨pb, 1, none⟩ (.int .i64 ((a : Int) + 1)) = w3 at *
                (with_reducible refine hcall.mono ?_)
                clear hcall c0 c1 c2 f0 f1 f2
                rintro e w4 ⟨hc4, out, k0, nm, ao, len, cap, a', hG, rfl, hR⟩
                have hs34 := hc4.size
                have hs3 := Hw3.out.s
                have hcA : Chg Nob w4 (w4.alloc (.cells #[.int .i64 k0, .string nm, .slice ao len cap] 37)) := (Chg.refl _ _).alloc _
                have Hw5 := Lib.hid ((Hw3.out.chg hc4).nob hcA)
                have hR5 := hR.chg hcA (fun e => e) (fun e => e) (fun _ _ e => e) (lo' := w.heap.size + 1) (by omega)
                have Hb5 := Lib.hid (heap_alloc_new w4 (.cells #[.int .i64 k0, .string nm, .slice ao len cap] 37))
                have hBt : w.heap.size < w4.heap.size := by omega
                clear hR hcA
                cases out with
                | err y =>
                  have Hend := Lib.hid (ROut.err_up (lo' := w.heap.size + 1) (val' := .agg #[.int .i64 k0, .string nm, .slice ao len cap]) hR5)
                  obtain ⟨j, yt, hj, hy, hle, hP5⟩ := hR5
                  have Hj := Lib.hid hj
                  have HP5 := Lib.hid hP5
                  have HG : Hid (G (.lev 5) ((MM L N).drop a) (.err y)) := (show G (.lev 5) ((MM L N).drop a) (.err y) by rw [Hdrop.out]; exact .par_err Hx.out hG)
                  have hji : ¬ (j : Int) < 0 := by omega
                  have ha'i : (a' : Int) ≤ 20000 := by omega
                  have ha'0 : (0 : Int) ≤ (a' : Int) := by omega
                  obtain ⟨c0, c1, c2, f0, f1, f2⟩ := cells_three HP5.out.box
                  obtain ⟨e0, e1, e2, _⟩ := cells_three Hb5.out
                  have HP6 := Lib.hid (HP5.out.setAt (a' + 1) ((a' : Int) + 1) (by omega))
                  have Hc6 : Hid (Chg (At1 pb) (w4.alloc (.cells #[.int .i64 k0, .string nm, .slice ao len cap] 37)) ((w4.alloc (.cells #[.int .i64 k0, .string nm, .slice ao len cap] 37)).setCell ⟨pb, 1, none⟩ (.int .i64 ((a' : Int) + 1)))) := ((Chg.refl (At1 pb) _).setCell (p := ⟨pb, 1, none⟩) (fun _ => rfl) _)
                  have Hw6 := Lib.hid (Hw5.out.chg Hc6.out)
                  have Hpost := Lib.hid (Pw.fin (k0 := k0) (nm := nm) (ao := ao) (len := len) (cap := cap) (a' := a' + 1) Hw6.out hgl HG.out ⟨j, yt, Hj.out, hy, by omega, HP6.out⟩)
                  obtain ⟨d0, d1, d2, g0, g1, g2⟩ := cells_three Hw6.out.b
                  obtain ⟨r0, r1, r2, _⟩ := cells_three (block_three_all Hw6.out.b (.int .i64 k0) (.string nm) (.slice ao len cap))
                  have Hr := Lib.hid (And.intro r0 (And.intro r1 r2))
                  clear r0 r1 r2 hj hy hP5 hG hle
                  generalize hW5 : w4.alloc (.cells #[.int .i64 k0, .string nm, .slice ao len cap] 37) = w5 at *
                  go_wp2
                  obtain ⟨r0, r1, r2⟩ := Hr.out
                  exact bodyPost_ret (v := .agg #[.int .i64 k0, .string nm, .slice ao len cap]) (by simp [results, Try.results74, go_sem, r0, r1, r2]) rfl Hpost.out
                | ok t rest =>
                  obtain ⟨hal', rfl, hF5, hP5⟩ := hR5
                  have HG : Hid (G (.lev 0) ((MM L N).drop (a + 1)) (.ok t ((MM L N).drop a'))) := hG
                  have HP5 := Lib.hid hP5
                  have HF5 := Lib.hid hF5
                  obtain ⟨c0, c1, c2, f0, f1, f2⟩ := cells_three hP5.box
                  have hw5 := word_any hP5 (by omega)
                  obtain ⟨tk2, htk2, hx2, hdrop2⟩ := wordAt_at (L := L) (a := a') N hal'
                  obtain ⟨y, hye⟩ : ∃ y, y = wordAt L a' := ⟨_, rfl⟩
                  rw [← hye] at hw5 hx2
                  have Hlt2 : Hid (y ≠ [] → a' < L.length) := (show y ≠ [] → a' < L.length from fun h => wordAt_lt (hye ▸ h))
                  have Htk2 := Lib.hid htk2
                  have Hx2 := Lib.hid hx2
                  have Hd2 : Hid ((MM L N).drop a' = tk2 :: (MM L N).drop (a' + 1)) := (show (MM L N).drop a' = tk2 :: (MM L N).drop (a' + 1) from hdrop2)
                  clear htk2 hdrop2 hP5 hF5 hye hx2 hG
                  go_wp2_with fail
                  generalize w4.alloc (.cells #[.int .i64 k0, .string nm, .slice ao len cap] 37) = w5 at *
                  (with_reducible refine hw5.mono ?_)
                  clear hw5
                  rintro e w6 ⟨rfl, hc6⟩
                  have HP6 := Lib.hid (HP5.out.nob hc6)
                  have HF6 := Lib.hid (HF5.out.chg hc6 (fun _ _ _ e => e) (fun _ h => h))
                  have Hw6 := Lib.hid (Hw5.out.nob hc6)
                  have Hb6 := Lib.hid (hc6.at Hb5.out (fun e => e))
                  have hpb4 : pb < w4.heap.size := by omega
                  clear HP5 HF5 Hb5 c0 c1 c2 f0 f1 f2
                  have ha'i : (a' : Int) ≤ 5000 := by omega
                  have ha'0 : (0 : Int) ≤ (a' : Int) := by omega
                  cases hq : (y == [41]) with
                  | true =>
                    obtain rfl : y = [41] := beq_iff_eq.1 hq
                    clear hq
                    have hal2 := Hlt2.out (by simp)
                    have HP7 := Lib.hid (HP6.out.setAt (a' + 1) ((a' : Int) + 1) (by omega))
                    have Hc7 : Hid (Chg (At1 pb) w6 (w6.setCell ⟨pb, 1, none⟩ (.int .i64 ((a' : Int) + 1)))) := ((Chg.refl (At1 pb) _).setCell (p := ⟨pb, 1, none⟩) (fun _ => rfl) _)
                    have Hw7 := Lib.hid (Hw6.out.chg Hc7.out)
                    have Hb7 := Lib.hid (Hc7.out.at Hb6.out (fun e => by have e : w4.heap.size = pb := e; omega))
                    have Hpost := Lib.hid (Pw.fin (k0 := k0) (nm := nm) (ao := ao) (len := len) (cap := cap) (a' := a' + 1) (N := N) (out := .ok t ((MM L N).drop (a' + 1))) Hw7.out hgl (by rw [Hdrop.out]; exact .par Hx.out (y := tk2) (by rw [← Hd2.out]; exact HG.out) Hx2.out) ⟨hal2, rfl, HF6.out.chg Hc7.out (fun b hb _ e => by unfold Ge at hb; have e : b = pb := e; omega) (fun _ h => h), HP7.out⟩)
                    obtain ⟨c0, c1, c2, f0, f1, f2⟩ := cells_three HP6.out.box
                    obtain ⟨e0, e1, e2, _⟩ := cells_three Hb7.out
                    obtain ⟨d0, d1, d2, g0, g1, g2⟩ := cells_three Hw7.out.b
                    obtain ⟨r0, r1, r2, _⟩ := cells_three (block_three_all Hw7.out.b (.int .i64 k0) (.string nm) (.slice ao len cap))
                    have Hr := Lib.hid (And.intro r0 (And.intro r1 r2))
                    clear r0 r1 r2
                    go_wp2
                    obtain ⟨r0, r1, r2⟩ := Hr.out
                    exact bodyPost_ret (v := .agg #[.int .i64 k0, .string nm, .slice ao len cap]) (by simp [results, Try.results74, go_sem, r0, r1, r2]) rfl Hpost.out
                  | false =>
                    have hq2 : (y != [41]) = true := by rw [bne, hq]; rfl
                    have HP7 := Lib.hid (HP6.out.setBad (a' : Int))
                    have Hc7 : Hid (Chg (At1 pb) w6 (w6.setCell ⟨pb, 2, none⟩ (.int .i64 (a' : Int)))) := ((Chg.refl (At1 pb) _).setCell (p := ⟨pb, 2, none⟩) (fun _ => rfl) _)
                    have Hw7 := Lib.hid (Hw6.out.chg Hc7.out)
                    have Hb7 := Lib.hid (Hc7.out.at Hb6.out (fun e => by have e : w4.heap.size = pb := e; omega))
                    have hcall := fail_any HP6.out
                    have hne : Hid (y ≠ [41]) := (show y ≠ [41] from beq_eq_false_iff_ne.1 hq)
                    clear HP6
                    go_wp2_with fail
                    (with_reducible refine hcall.mono ?_)
                    clear hcall
                    rintro e w7 ⟨rfl, rfl⟩
                    generalize w6.setCell ⟨pb, 2, none⟩ (.int .i64 (a' : Int)) = w7 at *
                    have HP8 := Lib.hid (HP7.out.setAt (a' + 1) ((a' : Int) + 1) (by omega))
                    have Hc8 : Hid (Chg (At1 pb) w7 (w7.setCell ⟨pb, 1, none⟩ (.int .i64 ((a' : Int) + 1)))) := ((Chg.refl (At1 pb) _).setCell (p := ⟨pb, 1, none⟩) (fun _ => rfl) _)
                    have Hw8 := Lib.hid (Hw7.out.chg Hc8.out)
                    have Hb8 := Lib.hid (Hc8.out.at Hb7.out (fun e => by have e : w4.heap.size = pb := e; omega))
                    have Hpost := Lib.hid (Pw.fin (k0 := k0) (nm := nm) (ao := ao) (len := len) (cap := cap) (a' := a' + 1) (N := N) (out := .err (wrongAt tk2)) Hw8.out hgl (by rw [Hdrop.out]; exact .par_not Hx.out (by rw [← Hd2.out]; exact HG.out) (by rw [Hx2.out]; exact hne.out)) ⟨a', tk2, Htk2.out, rfl, by omega, HP8.out⟩)
                    obtain ⟨c0, c1, c2, f0, f1, f2⟩ := cells_three HP7.out.box
                    obtain ⟨e0, e1, e2, _⟩ := cells_three Hb8.out
                    obtain ⟨d0, d1, d2, g0, g1, g2⟩ := cells_three Hw8.out.b
                    obtain ⟨r0, r1, r2, _⟩ := cells_three (block_three_all Hw8.out.b (.int .i64 k0) (.string nm) (.slice ao len cap))
                    have Hr := Lib.hid (And.intro r0 (And.intro r1 r2))
                    clear r0 r1 r2
                    go_wp2
                    obtain ⟨r0, r1, r2⟩ := Hr.out
                    exact bodyPost_ret (v := .agg #[.int .i64 k0, .string nm, .slice ao len cap]) (by simp [results, Try.results74, go_sem, r0, r1, r2]) rfl Hpost.out
              | false =>
                have Hpre : Hid (preOf x = none) := (show preOf x = none by
                  unfold preOf
                  rw [if_neg (beq_eq_false_iff_ne.1 hs0), if_neg (beq_eq_false_iff_ne.1 hs1), if_neg (beq_eq_false_iff_ne.1 hs2), if_neg (beq_eq_false_iff_ne.1 hs3)])
                have Hat : Hid (atomOf x = if nameB x then some (.node 3 x []) else none) := (show atomOf x = if nameB x then some (.node 3 x []) else none by
                  unfold atomOf
                  rw [if_neg (beq_eq_false_iff_ne.1 hs4), if_neg (beq_eq_false_iff_ne.1 hs5)])
                have Hpar : Hid (x ≠ [40]) := (show x ≠ [40] from beq_eq_false_iff_ne.1 hs6)
                go_wp2_with fail
                (with_reducible refine (risname_any _ _).mono ?_)
                rintro e w3 ⟨rfl, hc3⟩
                have HP3 := Lib.hid (HP2.out.nob hc3)
                have Hw3 := Lib.hid (Hw2.out.nob hc3)
                clear HP2 Hw2 c0 c1 c2 f0 f1 f2 hs0 hs1 hs2 hs3 hs4 hs5 hs6
                cases hn : nameB x with
                | true =>
                  have Hn := Lib.hid hn
                  have hal := Hlt.out (by rintro rfl; cases hn)
                  have HP4 := Lib.hid (HP3.out.setAt (a + 1) ((a : Int) + 1) (by omega))
                  have Hc4 : Hid (Chg (At1 pb) w3 (w3.setCell ⟨pb, 1, none⟩ (.int .i64 ((a : Int) + 1)))) := ((Chg.refl (At1 pb) w3).setCell (p := ⟨pb, 1, none⟩) (fun _ => rfl) _)
                  have Hw4 := Lib.hid (Hw3.out.chg Hc4.out)
                  have Hpost := Lib.hid (leaf_end (k := 3) (nm := x) Hdrop.out (by rw [Hx.out]; exact Hpre.out) (by rw [Hx.out, Hat.out, if_pos Hn.out]) hgl Hw4.out hal HP4.out)
                  obtain ⟨c0, c1, c2, f0, f1, f2⟩ := cells_three HP3.out.box
                  obtain ⟨d0, d1, d2, g0, g1, g2⟩ := cells_three Hw4.out.b
                  obtain ⟨r0, r1, r2, _⟩ := cells_three (block_three_all Hw4.out.b (.int .i64 3) (.string ⟨x.toArray⟩) (.slice none 0 0))
                  have Hr := Lib.hid (And.intro r0 (And.intro r1 r2))
                  clear r0 r1 r2
                  go_wp2
                  obtain ⟨r0, r1, r2⟩ := Hr.out
                  exact bodyPost_ret (v := .agg #[.int .i64 3, .string ⟨x.toArray⟩, .slice none 0 0]) (by simp [results, Try.results74, go_sem, r0, r1, r2]) rfl Hpost.out
                | false =>
                  have Hn := Lib.hid hn
                  have hcall := fail_any HP3.out
                  have HP4 := Lib.hid (HP3.out.setBad (a : Int))
                  have Hc4 : Hid (Chg (At1 pb) w3 (w3.setCell ⟨pb, 2, none⟩ (.int .i64 (a : Int)))) := ((Chg.refl (At1 pb) _).setCell (p := ⟨pb, 2, none⟩) (fun _ => rfl) _)
                  have Hw4 := Lib.hid (Hw3.out.chg Hc4.out)
                  clear HP3
                  go_wp2_with fail
                  (with_reducible refine hcall.mono ?_)
                  clear hcall
                  rintro e w4 ⟨rfl, rfl⟩
                  generalize w3.setCell ⟨pb, 2, none⟩ (.int .i64 (a : Int)) = w4 at *
                  have Hpost := Lib.hid (Pw.fin (k0 := 0) (nm := ⟨#[]⟩) (ao := none) (len := 0) (cap := 0) (a' := a) (N := N) (out := .err (wrongAt tok)) Hw4.out hgl (by rw [Hdrop.out]; exact .bad (by rw [Hx.out]; exact Hpre.out) (by rw [Hx.out, Hat.out, if_neg (by rw [Hn.out]; simp)]) (by rw [Hx.out]; exact Hpar.out)) ⟨a, tok, Htk.out, rfl, by omega, HP4.out⟩)
                  obtain ⟨d0, d1, d2, g0, g1, g2⟩ := cells_three Hw4.out.b
                  obtain ⟨r0, r1, r2, _⟩ := cells_three (block_three_all Hw4.out.b (.int .i64 0) (.string ⟨#[]⟩) (.slice none 0 0))
                  have Hr := Lib.hid (And.intro r0 (And.intro r1 r2))
                  clear r0 r1 r2
                  go_wp2
                  obtain ⟨r0, r1, r2⟩ := Hr.out
                  exact bodyPost_ret (v := .agg #[.int .i64 0, .string ⟨#[]⟩, .slice none 0 0]) (by simp [results, Try.results74, go_sem, r0, r1, r2]) rfl Hpost.out
end Go.Proofs.Ytkgfdgfhpdhhaaa
