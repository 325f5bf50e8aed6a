/- The levels of the reader: what a formula is, by the grammar. Conditions: the words lie in the world. -/
import Derived.Test.YtkgfdgfhpdhhaaaIs
import Derived.RegionTactic
import Derived.Deep.LoopGhost
namespace Go.Proofs.Ytkgfdgfhpdhhaaa
open Go.ChangeShapes Go.WideShapes Go.RowKit

def LevEnd (rb g lo : Nat) (w' : World) (e : Ending) : Out → Prop
  | .ok t L' => ∃ v o' cap', e = .returned v ∧ Fresh (Ge lo) w' t v ∧ Rs w' rb g o' cap' L' ∧ Ends L'
  | .err x => e = .panicked (stopE x.1 x.2)
def LevPost (rb g n : Nat) (L : List Tok) (w : World) (e : Ending) (w' : World) : Prop :=
  Chg (At1 rb) w w' ∧ ∃ out, G (.lev n) L out ∧ LevEnd rb g w.heap.size w' e out
def LevC (fn n : Nat) (L : List Tok) : Prop := ∀ (w : World) (rb g o cap : Nat), Rs w rb g o cap L → rb < w.heap.size → Calls Try.prog fn #[.pointer (some ⟨rb, 0, none⟩)] w (LevPost rb g n L w)

theorem cells_three {w : World} {b : Nat} {x y z : Value} {t : TypeId} (h : w.heap[b]? = some (.cells #[x, y, z] t (0, 0))) : w.cell? ⟨b, 0, none⟩ = some x ∧ w.cell? ⟨b, 1, none⟩ = some y ∧ w.cell? ⟨b, 2, none⟩ = some z ∧ w.frozen? ⟨b, 0, none⟩ = false ∧ w.frozen? ⟨b, 1, none⟩ = false ∧ w.frozen? ⟨b, 2, none⟩ = false := by
  simp [World.cell?, World.frozen?, h]
theorem block_three_all {w : World} {b : Nat} {x y z : Value} {t : TypeId} (h : w.heap[b]? = some (.cells #[x, y, z] t (0, 0))) (u0 u1 u2 : Value) :
    (((w.setCell ⟨b, 0, none⟩ u0).setCell ⟨b, 1, none⟩ u1).setCell ⟨b, 2, none⟩ u2).heap[b]? = some (.cells #[u0, u1, u2] t (0, 0)) := by
  simp [World.setCell, Array.getElem?_modify, h]
theorem chg_three (w : World) (b : Nat) (u0 u1 u2 : Value) : Chg (At1 b) w (((w.setCell ⟨b, 0, none⟩ u0).setCell ⟨b, 1, none⟩ u1).setCell ⟨b, 2, none⟩ u2) :=
  (((Chg.refl (At1 b) w).setCell (p := ⟨b, 0, none⟩) (fun _ => rfl) _).setCell (p := ⟨b, 1, none⟩) (fun _ => rfl) _).setCell (p := ⟨b, 2, none⟩) (fun _ => rfl) _
theorem op_neq0 {w : List UInt8} (h : (w == [60, 45, 62]) = false) : opOf 0 w = none := by
  have h := beq_eq_false_iff_ne.1 h
  simp [opOf, h]
theorem op_neq1 {w : List UInt8} (h : (w == [45, 62]) = false) : opOf 1 w = none := by
  have h := beq_eq_false_iff_ne.1 h
  simp [opOf, h]
theorem op_neq2 {w : List UInt8} (h : (w == [124, 124]) = false) : opOf 2 w = none := by
  have h := beq_eq_false_iff_ne.1 h
  simp [opOf, h]
theorem op_neq3 {w : List UInt8} (h : (w == [38, 38]) = false) : opOf 3 w = none := by
  have h := beq_eq_false_iff_ne.1 h
  simp [opOf, h]
theorem op_neq4 {w : List UInt8} (h : (w == [85]) = false) (h2 : (w == [86]) = false) (h3 : (w == [87]) = false) : opOf 4 w = none := by
  have h := beq_eq_false_iff_ne.1 h
  have h2 := beq_eq_false_iff_ne.1 h2
  have h3 := beq_eq_false_iff_ne.1 h3
  simp [opOf, h, h2, h3]
theorem Rs.at1 {w w' : World} {rb b g o cap : Nat} {L : List Tok} (h : Rs w rb g o cap L) (hc : Chg (At1 b) w w') (hb : b ≠ rb) (hg : g ≠ b) : Rs w' rb g o cap L :=
  ⟨hc.at h.box (fun e => hb e.symm), h.le, h.big, h.tok.chg hc hg, h.ne⟩
theorem Rs.g_lt {w : World} {rb g o cap : Nat} {x : Tok} {L : List Tok} (h : Rs w rb g o cap (x :: L)) : g < w.heap.size := World.block_lt_of_cell? w _ (h.tok 0 x rfl).1

/-- What holds behind the part at the left. -/
structure Lft (rb g : Nat) (L : List Tok) (t : T) (x : Tok) (L2 : List Tok) (o' cap' : Nat) (a0 a1 a2 : Value) (w W1 w2 W3 : World) : Prop where
  rbl : rb < w.heap.size
  gl : g < w.heap.size
  cW : Chg Nob w W1
  sW : W1.heap.size = w.heap.size + 1
  c2 : Chg (At1 rb) W1 w2
  f : Fresh (Ge (w.heap.size + 1)) w2 t (.agg #[a0, a1, a2])
  r : Rs w2 rb g o' cap' (x :: L2)
  e : Ends (x :: L2)
  c3 : Chg Nob w2 W3
  s3 : W3.heap.size = w2.heap.size + 1
  b3 : ∃ z0 z1 z2, W3.heap[w.heap.size]? = some (.cells #[z0, z1, z2] 37 (0, 0))
  t3 : W3.heap[w2.heap.size]? = some (.cells #[a0, a1, a2] 37 (0, 0))
theorem Lft.s2 {rb g : Nat} {L : List Tok} {t : T} {x : Tok} {L2 : List Tok} {o' cap' : Nat} {a0 a1 a2 : Value} {w W1 w2 W3 : World} (h : Lft rb g L t x L2 o' cap' a0 a1 a2 w W1 w2 W3) : w.heap.size < w2.heap.size := by
  have := h.c2.size; have := h.sW; omega
section
variable {rb g n : Nat} {L : List Tok} {t u : T} {x : Tok} {L2 L3 : List Tok} {o' cap' o5 cap5 D : Nat} {a0 a1 a2 b0 b1 b2 : Value} {w W1 w2 W3 W4 w4 w5 w6 w7 : World} {k : Int}
/-- A formula that is read as it is. -/
theorem Lft.same (h : Lft rb g L t x L2 o' cap' a0 a1 a2 w W1 w2 W3) (h34 : Chg Nob W3 W4) (hG : G (.lev n) L (.ok t (x :: L2))) :
    LevPost rb g n L w (.returned (.agg #[a0, a1, a2])) (((W4.setCell ⟨w.heap.size, 0, none⟩ a0).setCell ⟨w.heap.size, 1, none⟩ a1).setCell ⟨w.heap.size, 2, none⟩ a2) := by
  have hs2 := h.s2
  have hrb := h.rbl
  have hg := h.gl
  have k3 := chg_three W4 w.heap.size a0 a1 a2
  have kk := h.c3.trans1 h34
  refine ⟨(((h.cW.any).trans1 h.c2).trans1 kk.any).trans k3 (fun i hi e => by have e : i = w.heap.size := e; omega), _, hG, _, o', cap', rfl, ?_, (h.r.nob kk).at1 k3 (by omega) (by omega), h.e⟩
  exact h.f.chg (S := At1 w.heap.size) ((kk.any).trans1 k3) (fun b hb _ e => by have e : b = w.heap.size := e; have hb : w.heap.size + 1 ≤ b := hb; omega) (fun _ hb => Nat.le_of_succ_le hb)
/-- Two formulas with an operator between. -/
theorem Lft.both (h : Lft rb g L t x L2 o' cap' a0 a1 a2 w W1 w2 W3) (hG : G (.lev n) L (.ok (two k t u) L3)) (h34 : Chg (At1 rb) W3 w4) (h45 : Chg (At1 rb) w4 w5) (hFu : Fresh (Ge w4.heap.size) w5 u (.agg #[b0, b1, b2])) (hR : Rs w5 rb g o5 cap5 L3) (hE : Ends L3)
    (h56 : Chg Nob w5 w6) (hD : w6.heap[w5.heap.size + 3]? = some (.cells #[a0, a1, a2, b0, b1, b2] 37 (0, 0))) (h67 : Chg (At1 w2.heap.size) w6 w7) :
    LevPost rb g n L w (.returned (.agg #[.int .i64 k, .string ⟨#[]⟩, .slice (some ⟨w5.heap.size + 3, 0, none⟩) 2 2])) (((w7.setCell ⟨w.heap.size, 0, none⟩ (.int .i64 k)).setCell ⟨w.heap.size, 1, none⟩ (.string ⟨#[]⟩)).setCell ⟨w.heap.size, 2, none⟩ (.slice (some ⟨w5.heap.size + 3, 0, none⟩) 2 2)) := by
  have hs2 := h.s2
  have hrb := h.rbl
  have hg := h.gl
  have hs3 := h.s3
  have z34 := h34.size
  have z45 := h45.size
  have k8 := chg_three w7 w.heap.size (.int .i64 k) (.string ⟨#[]⟩) (.slice (some ⟨w5.heap.size + 3, 0, none⟩) 2 2)
  have k78 : Chg (fun q => q = w.heap.size ∨ q = w2.heap.size) w6 (((w7.setCell ⟨w.heap.size, 0, none⟩ (.int .i64 k)).setCell ⟨w.heap.size, 1, none⟩ (.string ⟨#[]⟩)).setCell ⟨w.heap.size, 2, none⟩ (.slice (some ⟨w5.heap.size + 3, 0, none⟩) 2 2)) :=
    (h67.mono (fun _ _ e => .inr e)).trans k8 (fun _ _ e => .inl e)
  have k5F := (h56.any (S := fun q => q = w.heap.size ∨ q = w2.heap.size)).trans1 k78
  have k2F : Chg (fun q => q = rb ∨ q = w.heap.size ∨ q = w2.heap.size) w2 (((w7.setCell ⟨w.heap.size, 0, none⟩ (.int .i64 k)).setCell ⟨w.heap.size, 1, none⟩ (.string ⟨#[]⟩)).setCell ⟨w.heap.size, 2, none⟩ (.slice (some ⟨w5.heap.size + 3, 0, none⟩) 2 2)) :=
    (((h.c3.any).trans1 (h34.trans1 h45)).mono (fun _ _ e => .inl e)).trans k5F (fun _ _ e => .inr e)
  refine ⟨?_, _, hG, _, o5, cap5, rfl, ?_, ?_, hE⟩
  · exact ((h.cW.any).trans1 h.c2).trans k2F (fun i hi e => by rcases e with e | e | e; exact e; omega; omega)
  · unfold two
    rw [Fresh]
    refine .inr ⟨w5.heap.size + 3, _, (by show _ ≤ _; omega), rfl, k78.at hD (fun e => by rcases e with e | e <;> omega), by simp, ?_⟩
    rw [FreshL, FreshL, FreshL]
    exact ⟨h.f.chg k2F (fun b hb hb2 e => by have hb : w.heap.size + 1 ≤ b := hb; rcases e with e | e | e <;> omega) (fun _ hb => Nat.le_of_succ_le hb), hFu.chg k5F (fun b hb hb2 e => by unfold Ge at hb; rcases e with e | e <;> omega) (fun b hb => by unfold Ge at hb ⊢; omega), trivial⟩
  · exact ⟨k5F.at hR.box (fun e => by rcases e with e | e <;> omega), hR.le, hR.big, hR.tok.chg k5F (fun e => by rcases e with e | e <;> omega), hR.ne⟩
end

/-- What holds at a loop's head. -/
structure Lp (rb g n : Nat) (L : List Tok) (w : World) (D : Nat) (t : T) (M : List Tok) (a0 a1 a2 : Value) (wr : World) : Prop where
  rbl : rb < w.heap.size
  gl : g < w.heap.size
  dl : w.heap.size < D ∧ D < wr.heap.size
  c : Chg (At1 rb) w wr
  b : ∃ z0 z1 z2, wr.heap[w.heap.size]? = some (.cells #[z0, z1, z2] 37 (0, 0))
  d : wr.heap[D]? = some (.cells #[a0, a1, a2] 37 (0, 0))
  f : Fresh (fun b => w.heap.size < b ∧ b ≠ D) wr t (.agg #[a0, a1, a2])
  r : ∃ o cap, Rs wr rb g o cap M
  e : Ends M
  len : M.length < L.length
  cont : ∀ o, G (.loop n t) M o → G (.lev n) L o
section
variable {rb g n : Nat} {L : List Tok} {t u : T} {x : Tok} {L2 L3 M : List Tok} {o' cap' o5 cap5 D : Nat} {a0 a1 a2 b0 b1 b2 : Value} {w W1 w2 W3 W4 wr w4 w5 w6 : World} {k : Int}
theorem Lft.loop (h : Lft rb g L t x L2 o' cap' a0 a1 a2 w W1 w2 W3) (hn : n ≤ 4) (hl : leftOf n = true) (hG : G (.lev (n + 1)) L (.ok t (x :: L2))) : Lp rb g n L w w2.heap.size t (x :: L2) a0 a1 a2 W3 where
  rbl := h.rbl
  gl := h.gl
  dl := ⟨h.s2, by have := h.s3; omega⟩
  c := ((h.cW.any).trans1 h.c2).trans1 (h.c3.any)
  b := h.b3
  d := h.t3
  f := by
    have h1 : Fresh (fun b => w.heap.size < b ∧ b < w2.heap.size) w2 t (.agg #[a0, a1, a2]) := h.f.lt (fun b hb hb2 => ⟨hb, hb2⟩)
    exact h1.chg h.c3 (fun _ _ _ e => e) (fun b hb => ⟨hb.1, by omega⟩)
  r := ⟨_, _, h.r.nob h.c3⟩
  e := h.e
  len := by have := G_lev_size hG; have := sizeT_pos t; omega
  cont := fun _ h2 => .left hn hl hG h2
theorem Lp.same (h : Lp rb g n L w D t M a0 a1 a2 wr) (hG : G (.lev n) L (.ok t M)) :
    LevPost rb g n L w (.returned (.agg #[a0, a1, a2])) (((wr.setCell ⟨w.heap.size, 0, none⟩ a0).setCell ⟨w.heap.size, 1, none⟩ a1).setCell ⟨w.heap.size, 2, none⟩ a2) := by
  obtain ⟨o, cap, hr⟩ := h.r
  have hrb := h.rbl
  have hg := h.gl
  have k3 := chg_three wr w.heap.size a0 a1 a2
  refine ⟨h.c.trans k3 (fun i hi e => by have e : i = w.heap.size := e; omega), _, hG, _, o, cap, rfl, ?_, hr.at1 k3 (by omega) (by omega), h.e⟩
  exact h.f.chg k3 (fun b hb _ e => by have e : b = w.heap.size := e; omega) (fun b hb => by unfold Ge; omega)
theorem Lp.next (h : Lp rb g n L w D t (x :: M) a0 a1 a2 wr) (hl : leftOf n = true) (hk : opOf n x.1 = some k) (h34 : Chg (At1 rb) wr w4) (h45 : Chg (At1 rb) w4 w5) (hG : G (.lev (n + 1)) M (.ok u L3)) (hFu : Fresh (Ge w4.heap.size) w5 u (.agg #[b0, b1, b2])) (hR : Rs w5 rb g o5 cap5 L3) (hE : Ends L3)
    (h56 : Chg Nob w5 w6) (hD : w6.heap[w5.heap.size + 3]? = some (.cells #[a0, a1, a2, b0, b1, b2] 37 (0, 0))) :
    Lp rb g n L w D (two k t u) L3 (.int .i64 k) (.string ⟨#[]⟩) (.slice (some ⟨w5.heap.size + 3, 0, none⟩) 2 2) (((w6.setCell ⟨D, 0, none⟩ (.int .i64 k)).setCell ⟨D, 1, none⟩ (.string ⟨#[]⟩)).setCell ⟨D, 2, none⟩ (.slice (some ⟨w5.heap.size + 3, 0, none⟩) 2 2)) := by
  have hrb := h.rbl
  have hg := h.gl
  have hdl := h.dl
  have z34 := h34.size
  have z45 := h45.size
  have z56 := h56.size
  have kD := chg_three w6 D (.int .i64 k) (.string ⟨#[]⟩) (.slice (some ⟨w5.heap.size + 3, 0, none⟩) 2 2)
  have zD := kD.size
  have k46 : Chg (At1 rb) wr w6 := (h34.trans1 h45).trans1 (h56.any)
  have kF : Chg (fun q => q = rb ∨ q = D) wr (((w6.setCell ⟨D, 0, none⟩ (.int .i64 k)).setCell ⟨D, 1, none⟩ (.string ⟨#[]⟩)).setCell ⟨D, 2, none⟩ (.slice (some ⟨w5.heap.size + 3, 0, none⟩) 2 2)) := (k46.mono (fun _ _ e => .inl e)).trans kD (fun _ _ e => .inr e)
  have k5 : Chg (At1 D) w5 (((w6.setCell ⟨D, 0, none⟩ (.int .i64 k)).setCell ⟨D, 1, none⟩ (.string ⟨#[]⟩)).setCell ⟨D, 2, none⟩ (.slice (some ⟨w5.heap.size + 3, 0, none⟩) 2 2)) := (h56.any).trans1 kD
  obtain ⟨z0, z1, z2, hb⟩ := h.b
  have hs := G_lev_size hG
  have hlen := h.len
  have hu := sizeT_pos u
  rw [List.length_cons] at hlen
  refine ⟨hrb, hg, ⟨hdl.1, by omega⟩, h.c.trans kF (fun i hi e => by rcases e with e | e; exact e; omega), ⟨z0, z1, z2, kF.at hb (fun e => by rcases e with e | e <;> omega)⟩, block_three_all (k46.at h.d (fun e => by have e : D = rb := e; omega)) _ _ _, ?_, ⟨o5, cap5, hR.at1 k5 (by omega) (by omega)⟩, hE, by omega, fun o ho => h.cont o (.go hl hk hG ho)⟩
  unfold two
  rw [Fresh]
  refine .inr ⟨w5.heap.size + 3, _, ⟨by omega, by omega⟩, rfl, kD.at hD (fun e => by have e : w5.heap.size + 3 = D := e; omega), by simp, ?_⟩
  rw [FreshL, FreshL, FreshL]
  exact ⟨h.f.chg kF (fun b hb hb2 e => by rcases e with e | e; omega; exact hb.2 e) (fun _ hb => hb), hFu.chg k5 (fun b hb hb2 e => by unfold Ge at hb; have e : b = D := e; omega) (fun b hb => by unfold Ge at hb; exact ⟨by omega, by omega⟩), trivial⟩
end

set_option maxRecDepth 100000 in
set_option maxHeartbeats 4000000 in
theorem iff_any (L : List Tok) (hE : Ends L) (h1 : LevC 80 1 L) (h0 : ∀ L', L'.length < L.length → Ends L' → LevC 53 0 L') : LevC 53 0 L := by
  intro w rb g o cap hR hrb
  have hcW : Chg Nob w (w.alloc (.cells #[.int .i64 0, .string ⟨#[]⟩, .slice none 0 0] 37)) := (Chg.refl _ _).alloc _
  have hcall := h1 _ rb g o cap (hR.nob hcW) (by rw [World.size_alloc]; omega)
  have hres := heap_alloc_new w (.cells #[.int .i64 0, .string ⟨#[]⟩, .slice none 0 0] 37)
  have Hres := Lib.hid hres
  have HW1s := Lib.hid (World.size_alloc w (.cells #[.int .i64 0, .string ⟨#[]⟩, .slice none 0 0] 37))
  have H0 := Lib.hid h0
  have hgl : g < w.heap.size := by
    obtain ⟨y, r, e⟩ := hE.cons
    subst e
    exact hR.g_lt
  clear h1 h0 hR hres
  go_enter Try.func53, Try.ntmps53
  go_wp2_with fail
  generalize w.alloc (.cells #[.int .i64 0, .string ⟨#[]⟩, .slice none 0 0] 37) = W1 at *
  (with_reducible refine hcall.mono ?_)
  clear hcall
  rintro e w2 ⟨hc2, out, hG, hend⟩
  rw [HW1s.out] at hend
  cases out with
  | err x =>
    obtain rfl := hend
    go_wp2
    exact ⟨rfl, (hcW.any).trans1 hc2, _, .down_err (by omega) hG, rfl⟩
  | ok t L' =>
    obtain ⟨v, o', cap', rfl, hF, hR2, hE2⟩ := hend
    obtain ⟨x, L2, rfl⟩ := hE2.cons
    obtain ⟨ao, capv, rfl⟩ := hF.agg
    have hL : Hid (∃ W3, W3 = w2.alloc (.cells #[.int .i64 t.kind, .string ⟨t.name.toArray⟩, .slice ao t.kids.length capv] 37) ∧ Lft rb g L t x L2 o' cap' (.int .i64 t.kind) (.string ⟨t.name.toArray⟩) (.slice ao t.kids.length capv) w W1 w2 W3) :=
      ⟨_, rfl, hrb, hgl, hcW, HW1s.out, hc2, hF, hR2, hE2, (Chg.refl _ _).alloc _, World.size_alloc _ _, ⟨_, _, _, ((Chg.refl Nob w2).alloc _).at (hc2.at Hres.out (fun e => by have e : w.heap.size = rb := e; omega)) (fun e => e)⟩, heap_alloc_new w2 _⟩
    clear hc2 hF hR2 Hres hcW
    go_wp2_with fail
    obtain ⟨W3, hW3, hl⟩ := hL.out
    rw [← hW3]
    clear hW3 hL
    have HL := Lib.hid hl
    clear hl
    cases hx : (x.1 == [60, 45, 62]) with
    | false =>
      (with_reducible refine (is_no [60, 45, 62] (HL.out.r.nob HL.out.c3) hx).mono ?_)
      rintro e w3 ⟨rfl, rfl⟩
      obtain ⟨z0, z1, z2, hb3⟩ := HL.out.b3
      obtain ⟨c0, c1, c2, f0, f1, f2⟩ := cells_three hb3
      obtain ⟨d0, d1, d2, _⟩ := cells_three HL.out.t3
      have Hb3 := Lib.hid hb3
      clear hb3
      go_wp2
      obtain ⟨e0, e1, e2, _⟩ := cells_three (block_three_all Hb3.out (.int .i64 t.kind) (.string ⟨t.name.toArray⟩) (.slice ao t.kids.length capv))
      exact bodyPost_ret (v := .agg #[.int .i64 t.kind, .string ⟨t.name.toArray⟩, .slice ao t.kids.length capv]) (by simp [results, Try.results53, go_sem, e0, e1, e2]) rfl (HL.out.same (Chg.refl _ _) (.none (by omega) rfl hG (op_neq0 hx)))
    | true =>
      have hxe : x.1 = [60, 45, 62] := beq_iff_eq.1 hx
      have hL2 : Ends L2 := hE2.tail (by rw [hxe]; simp)
      have hL2n : L2 ≠ [] := by obtain ⟨y, r, e⟩ := hL2.cons; rw [e]; simp
      have hlen : L2.length < L.length := by have := G_lev_size hG; rw [List.length_cons] at this; have := sizeT_pos t; omega
      (with_reducible refine (is_yes [60, 45, 62] (HL.out.r.nob HL.out.c3) hxe (by simp) hL2n).mono ?_)
      rintro e w4 ⟨rfl, rfl⟩
      have hR4 := (HL.out.r.nob HL.out.c3).next
      have hc4 := Rs.gone (w := W3) (rb := rb) (.slice (some ⟨g, o' + 2, none⟩) L2.length (cap' - 1))
      have hs4 : (W3.setCell ⟨rb, 0, none⟩ (.slice (some ⟨g, o' + 2, none⟩) L2.length (cap' - 1))).heap.size = W3.heap.size := by simp [World.setCell]
      have Hs4 := Lib.hid hs4
      clear hs4
      go_wp2_with fail
      generalize (W3.setCell ⟨rb, 0, none⟩ (.slice (some ⟨g, o' + 2, none⟩) L2.length (cap' - 1))) = W4 at *
      have Hcall : Hid (∀ w5, Chg Nob W4 w5 → Calls Try.prog 53 #[.pointer (some ⟨rb, 0, none⟩)] w5 (LevPost rb g 0 L2 w5)) := fun w5 h5 => H0.out L2 hlen hL2 w5 rb g _ _ (hR4.nob h5) (by have := h5.size; have := Hs4.out; have := HL.out.s3; have := HL.out.s2; omega)
      have ht4 := hc4.at HL.out.t3 (fun e => by have e : w2.heap.size = rb := e; have := HL.out.s2; omega)
      have Ht4 := Lib.hid ht4
      obtain ⟨d0, d1, d2, _⟩ := cells_three ht4
      clear hx hR4 ht4 hlen hL2 hL2n
      have Herr : Hid (∀ (w4 w5 : World) (y : Int × Nat), Chg Nob W4 w4 → Chg (At1 rb) w4 w5 → G (.lev 0) L2 (.err y) → LevPost rb g 0 L w (.panicked (stopE y.1 y.2)) w5) := fun w4 w5 y h1 h2 h3 =>
        ⟨(((HL.out.cW.any).trans1 HL.out.c2).trans1 (HL.out.c3.any)).trans1 ((hc4.trans1 h1.any).trans1 h2), _, .op_err (by omega) rfl hG (by rw [hxe]; rfl) h3, rfl⟩
      refine wp_region_any (by kernel_rfl) ?_
      refine wpAny_take (i := 1) (v := .pointer (some ⟨rb, 0, none⟩)) rfl (by kernel_rfl) (by kernel_rfl) (by kernel_rfl) (fun _ _ _ h => h) (Or.inl ⟨by rfl, fun _ => rfl⟩) ?_
      simp only [Act.put]
      refine wpAny_ready (rs := [0, 2]) (by kernel_rfl) (by simp) ?_
      refine AllReady.cons rfl (fun K hK => ?_) (AllReady.cons rfl (fun K hK => ?_) AllReady.nil)
      · go_simp
        refine hK _ _ ?_
        clear hK K
        refine wpAny_ready (rs := [2]) (by kernel_rfl) (by simp) ?_
        refine AllReady.cons rfl (fun K hK => ?_) AllReady.nil
        go_simp
        refine (Hcall.out _ (by repeat (first | exact Chg.refl _ _ | apply Chg.drew))).mono ?_
        rintro e w5 ⟨hc5, out5, hG5, hend5⟩
        cases out5 with
        | err y =>
          obtain rfl := hend5
          exact ⟨rfl, Herr.out _ _ y (Chg.refl _ _).drew hc5 hG5⟩
        | ok u L3 =>
          obtain ⟨v5, o5, cap5, rfl, hF5, hR5, hE5⟩ := hend5
          obtain ⟨a5, capv5, rfl⟩ := hF5.agg
          refine hK _ _ ?_
          clear hK K d0 d1 d2
          refine wpAny_ready (rs := [3]) (by kernel_rfl) (by simp) ?_
          refine AllReady.cons rfl (fun K hK => ?_) AllReady.nil
          go_simp
          refine (two_any _ _ _ _ _ _ _ _).mono ?_
          rintro e w6 ⟨rfl, hc6, hb6⟩
          refine hK _ _ ?_
          clear hK K
          refine wpAny_ready (rs := [4]) (by kernel_rfl) (by simp) ?_
          refine AllReady.cons rfl (fun K hK => ?_) AllReady.nil
          have hsz := HL.out.s2
          have hrl := HL.out.rbl
          have ht6 := hc6.at (hc5.at (show W4.drew.heap[w2.heap.size]? = _ from Ht4.out) (fun e => by have e : w2.heap.size = rb := e; omega)) (fun e => e)
          obtain ⟨z0, z1, z2, hb3⟩ := HL.out.b3
          have hres6 := hc6.at (hc5.at (show W4.drew.heap[w.heap.size]? = _ from hc4.at hb3 (fun e => by have e : w.heap.size = rb := e; omega)) (fun e => by have e : w.heap.size = rb := e; omega)) (fun e => e)
          have hpost : ∀ w7, Chg (At1 w2.heap.size) w6 w7 → LevPost rb g 0 L w (.returned (.agg #[.int .i64 11, .string ⟨#[]⟩, .slice (some ⟨w5.heap.size + 3, 0, none⟩) 2 2])) (((w7.setCell ⟨w.heap.size, 0, none⟩ (.int .i64 11)).setCell ⟨w.heap.size, 1, none⟩ (.string ⟨#[]⟩)).setCell ⟨w.heap.size, 2, none⟩ (.slice (some ⟨w5.heap.size + 3, 0, none⟩) 2 2)) :=
            fun w7 h67 => HL.out.both (.op_ok (by omega) rfl hG (by rw [hxe]; rfl) hG5) (w4 := W4.drew) hc4.drew hc5 hF5 hR5 hE5 hc6 hb6 h67
          have Hpost := Lib.hid hpost
          clear hpost hb6 hb3 hF5 hR5
          obtain ⟨d0, d1, d2, f0, f1, f2⟩ := cells_three ht6
          have ht7 := block_three_all ht6 (.int .i64 11) (.string ⟨#[]⟩) (.slice (some ⟨w5.heap.size + 3, 0, none⟩) 2 2)
          have hc7 := chg_three w6 w2.heap.size (.int .i64 11) (.string ⟨#[]⟩) (.slice (some ⟨w5.heap.size + 3, 0, none⟩) 2 2)
          have hres7 := hc7.at hres6 (fun e => by have e : w.heap.size = w2.heap.size := e; omega)
          have Ht7 := Lib.hid ht7
          have Hres7 := Lib.hid hres7
          clear ht7 hres7 hres6 ht6
          go_simp
          refine hK _ _ ?_
          clear hK K d0 d1 d2 f0 f1 f2
          refine wpAny_done (by kernel_rfl) ?_ _
          generalize ((w6.setCell ⟨w2.heap.size, 0, none⟩ (.int .i64 11)).setCell ⟨w2.heap.size, 1, none⟩ (.string ⟨#[]⟩)).setCell ⟨w2.heap.size, 2, none⟩ (.slice (some ⟨w5.heap.size + 3, 0, none⟩) 2 2) = w7 at *
          obtain ⟨d0, d1, d2, _⟩ := cells_three Ht7.out
          obtain ⟨c0, c1, c2, f0, f1, f2⟩ := cells_three Hres7.out
          go_simp
          go_wp2
          obtain ⟨e0, e1, e2, _⟩ := cells_three (block_three_all Hres7.out (.int .i64 11) (.string ⟨#[]⟩) (.slice (some ⟨w5.heap.size + 3, 0, none⟩) 2 2))
          exact bodyPost_ret (v := .agg #[.int .i64 11, .string ⟨#[]⟩, .slice (some ⟨w5.heap.size + 3, 0, none⟩) 2 2]) (by simp [results, Try.results53, go_sem, e0, e1, e2]) rfl (Hpost.out _ hc7)
      · go_simp
        refine (Hcall.out _ (by repeat (first | exact Chg.refl _ _ | apply Chg.drew))).mono ?_
        rintro e w5 ⟨hc5, out5, hG5, hend5⟩
        cases out5 with
        | err y =>
          obtain rfl := hend5
          exact ⟨rfl, Herr.out _ _ y (Chg.refl _ _).drew hc5 hG5⟩
        | ok u L3 =>
          obtain ⟨v5, o5, cap5, rfl, hF5, hR5, hE5⟩ := hend5
          obtain ⟨a5, capv5, rfl⟩ := hF5.agg
          refine hK _ _ ?_
          clear hK K d0 d1 d2
          obtain ⟨d0, d1, d2, _⟩ := cells_three (hc5.at (show W4.drew.heap[w2.heap.size]? = _ from Ht4.out) (fun e => by have e : w2.heap.size = rb := e; have := HL.out.s2; omega))
          refine wpAny_ready (rs := [0]) (by kernel_rfl) (by simp) ?_
          refine AllReady.cons rfl (fun K hK => ?_) AllReady.nil
          go_simp
          refine hK _ _ ?_
          clear hK K d0 d1 d2
          refine wpAny_ready (rs := [3]) (by kernel_rfl) (by simp) ?_
          refine AllReady.cons rfl (fun K hK => ?_) AllReady.nil
          go_simp
          refine (two_any _ _ _ _ _ _ _ _).mono ?_
          rintro e w6 ⟨rfl, hc6, hb6⟩
          refine hK _ _ ?_
          clear hK K
          refine wpAny_ready (rs := [4]) (by kernel_rfl) (by simp) ?_
          refine AllReady.cons rfl (fun K hK => ?_) AllReady.nil
          have hsz := HL.out.s2
          have hrl := HL.out.rbl
          have ht6 := hc6.at (hc5.at (show W4.drew.heap[w2.heap.size]? = _ from Ht4.out) (fun e => by have e : w2.heap.size = rb := e; omega)) (fun e => e)
          obtain ⟨z0, z1, z2, hb3⟩ := HL.out.b3
          have hres6 := hc6.at (hc5.at (show W4.drew.heap[w.heap.size]? = _ from hc4.at hb3 (fun e => by have e : w.heap.size = rb := e; omega)) (fun e => by have e : w.heap.size = rb := e; omega)) (fun e => e)
          have hpost : ∀ w7, Chg (At1 w2.heap.size) w6 w7 → LevPost rb g 0 L w (.returned (.agg #[.int .i64 11, .string ⟨#[]⟩, .slice (some ⟨w5.heap.size + 3, 0, none⟩) 2 2])) (((w7.setCell ⟨w.heap.size, 0, none⟩ (.int .i64 11)).setCell ⟨w.heap.size, 1, none⟩ (.string ⟨#[]⟩)).setCell ⟨w.heap.size, 2, none⟩ (.slice (some ⟨w5.heap.size + 3, 0, none⟩) 2 2)) :=
            fun w7 h67 => HL.out.both (.op_ok (by omega) rfl hG (by rw [hxe]; rfl) hG5) (w4 := W4.drew) hc4.drew hc5 hF5 hR5 hE5 hc6 hb6 h67
          have Hpost := Lib.hid hpost
          clear hpost hb6 hb3 hF5 hR5
          obtain ⟨d0, d1, d2, f0, f1, f2⟩ := cells_three ht6
          have ht7 := block_three_all ht6 (.int .i64 11) (.string ⟨#[]⟩) (.slice (some ⟨w5.heap.size + 3, 0, none⟩) 2 2)
          have hc7 := chg_three w6 w2.heap.size (.int .i64 11) (.string ⟨#[]⟩) (.slice (some ⟨w5.heap.size + 3, 0, none⟩) 2 2)
          have hres7 := hc7.at hres6 (fun e => by have e : w.heap.size = w2.heap.size := e; omega)
          have Ht7 := Lib.hid ht7
          have Hres7 := Lib.hid hres7
          clear ht7 hres7 hres6 ht6
          go_simp
          refine hK _ _ ?_
          clear hK K d0 d1 d2 f0 f1 f2
          refine wpAny_done (by kernel_rfl) ?_ _
          generalize ((w6.setCell ⟨w2.heap.size, 0, none⟩ (.int .i64 11)).setCell ⟨w2.heap.size, 1, none⟩ (.string ⟨#[]⟩)).setCell ⟨w2.heap.size, 2, none⟩ (.slice (some ⟨w5.heap.size + 3, 0, none⟩) 2 2) = w7 at *
          obtain ⟨d0, d1, d2, _⟩ := cells_three Ht7.out
          obtain ⟨c0, c1, c2, f0, f1, f2⟩ := cells_three Hres7.out
          go_simp
          go_wp2
          obtain ⟨e0, e1, e2, _⟩ := cells_three (block_three_all Hres7.out (.int .i64 11) (.string ⟨#[]⟩) (.slice (some ⟨w5.heap.size + 3, 0, none⟩) 2 2))
          exact bodyPost_ret (v := .agg #[.int .i64 11, .string ⟨#[]⟩, .slice (some ⟨w5.heap.size + 3, 0, none⟩) 2 2]) (by simp [results, Try.results53, go_sem, e0, e1, e2]) rfl (Hpost.out _ hc7)
set_option maxRecDepth 100000 in
set_option maxHeartbeats 4000000 in
theorem implies_any (L : List Tok) (hE : Ends L) (h1 : LevC 107 2 L) (h0 : ∀ L', L'.length < L.length → Ends L' → LevC 80 1 L') : LevC 80 1 L := by
  intro w rb g o cap hR hrb
  have hcW : Chg Nob w (w.alloc (.cells #[.int .i64 0, .string ⟨#[]⟩, .slice none 0 0] 37)) := (Chg.refl _ _).alloc _
  have hcall := h1 _ rb g o cap (hR.nob hcW) (by rw [World.size_alloc]; omega)
  have hres := heap_alloc_new w (.cells #[.int .i64 0, .string ⟨#[]⟩, .slice none 0 0] 37)
  have Hres := Lib.hid hres
  have HW1s := Lib.hid (World.size_alloc w (.cells #[.int .i64 0, .string ⟨#[]⟩, .slice none 0 0] 37))
  have H0 := Lib.hid h0
  have hgl : g < w.heap.size := by
    obtain ⟨y, r, e⟩ := hE.cons
    subst e
    exact hR.g_lt
  clear h1 h0 hR hres
  go_enter Try.func80, Try.ntmps80
  go_wp2_with fail
  generalize w.alloc (.cells #[.int .i64 0, .string ⟨#[]⟩, .slice none 0 0] 37) = W1 at *
  (with_reducible refine hcall.mono ?_)
  clear hcall
  rintro e w2 ⟨hc2, out, hG, hend⟩
  rw [HW1s.out] at hend
  cases out with
  | err x =>
    obtain rfl := hend
    go_wp2
    exact ⟨rfl, (hcW.any).trans1 hc2, _, .down_err (by omega) hG, rfl⟩
  | ok t L' =>
    obtain ⟨v, o', cap', rfl, hF, hR2, hE2⟩ := hend
    obtain ⟨x, L2, rfl⟩ := hE2.cons
    obtain ⟨ao, capv, rfl⟩ := hF.agg
    have hL : Hid (∃ W3, W3 = w2.alloc (.cells #[.int .i64 t.kind, .string ⟨t.name.toArray⟩, .slice ao t.kids.length capv] 37) ∧ Lft rb g L t x L2 o' cap' (.int .i64 t.kind) (.string ⟨t.name.toArray⟩) (.slice ao t.kids.length capv) w W1 w2 W3) :=
      ⟨_, rfl, hrb, hgl, hcW, HW1s.out, hc2, hF, hR2, hE2, (Chg.refl _ _).alloc _, World.size_alloc _ _, ⟨_, _, _, ((Chg.refl Nob w2).alloc _).at (hc2.at Hres.out (fun e => by have e : w.heap.size = rb := e; omega)) (fun e => e)⟩, heap_alloc_new w2 _⟩
    clear hc2 hF hR2 Hres hcW
    go_wp2_with fail
    obtain ⟨W3, hW3, hl⟩ := hL.out
    rw [← hW3]
    clear hW3 hL
    have HL := Lib.hid hl
    clear hl
    cases hx : (x.1 == [45, 62]) with
    | false =>
      (with_reducible refine (is_no [45, 62] (HL.out.r.nob HL.out.c3) hx).mono ?_)
      rintro e w3 ⟨rfl, rfl⟩
      obtain ⟨z0, z1, z2, hb3⟩ := HL.out.b3
      obtain ⟨c0, c1, c2, f0, f1, f2⟩ := cells_three hb3
      obtain ⟨d0, d1, d2, _⟩ := cells_three HL.out.t3
      have Hb3 := Lib.hid hb3
      clear hb3
      go_wp2
      obtain ⟨e0, e1, e2, _⟩ := cells_three (block_three_all Hb3.out (.int .i64 t.kind) (.string ⟨t.name.toArray⟩) (.slice ao t.kids.length capv))
      exact bodyPost_ret (v := .agg #[.int .i64 t.kind, .string ⟨t.name.toArray⟩, .slice ao t.kids.length capv]) (by simp [results, Try.results80, go_sem, e0, e1, e2]) rfl (HL.out.same (Chg.refl _ _) (.none (by omega) rfl hG (op_neq1 hx)))
    | true =>
      have hxe : x.1 = [45, 62] := beq_iff_eq.1 hx
      have hL2 : Ends L2 := hE2.tail (by rw [hxe]; simp)
      have hL2n : L2 ≠ [] := by obtain ⟨y, r, e⟩ := hL2.cons; rw [e]; simp
      have hlen : L2.length < L.length := by have := G_lev_size hG; rw [List.length_cons] at this; have := sizeT_pos t; omega
      (with_reducible refine (is_yes [45, 62] (HL.out.r.nob HL.out.c3) hxe (by simp) hL2n).mono ?_)
      rintro e w4 ⟨rfl, rfl⟩
      have hR4 := (HL.out.r.nob HL.out.c3).next
      have hc4 := Rs.gone (w := W3) (rb := rb) (.slice (some ⟨g, o' + 2, none⟩) L2.length (cap' - 1))
      have hs4 : (W3.setCell ⟨rb, 0, none⟩ (.slice (some ⟨g, o' + 2, none⟩) L2.length (cap' - 1))).heap.size = W3.heap.size := by simp [World.setCell]
      have Hs4 := Lib.hid hs4
      clear hs4
      go_wp2_with fail
      generalize (W3.setCell ⟨rb, 0, none⟩ (.slice (some ⟨g, o' + 2, none⟩) L2.length (cap' - 1))) = W4 at *
      have Hcall : Hid (∀ w5, Chg Nob W4 w5 → Calls Try.prog 80 #[.pointer (some ⟨rb, 0, none⟩)] w5 (LevPost rb g 1 L2 w5)) := fun w5 h5 => H0.out L2 hlen hL2 w5 rb g _ _ (hR4.nob h5) (by have := h5.size; have := Hs4.out; have := HL.out.s3; have := HL.out.s2; omega)
      have ht4 := hc4.at HL.out.t3 (fun e => by have e : w2.heap.size = rb := e; have := HL.out.s2; omega)
      have Ht4 := Lib.hid ht4
      obtain ⟨d0, d1, d2, _⟩ := cells_three ht4
      clear hx hR4 ht4 hlen hL2 hL2n
      have Herr : Hid (∀ (w4 w5 : World) (y : Int × Nat), Chg Nob W4 w4 → Chg (At1 rb) w4 w5 → G (.lev 1) L2 (.err y) → LevPost rb g 1 L w (.panicked (stopE y.1 y.2)) w5) := fun w4 w5 y h1 h2 h3 =>
        ⟨(((HL.out.cW.any).trans1 HL.out.c2).trans1 (HL.out.c3.any)).trans1 ((hc4.trans1 h1.any).trans1 h2), _, .op_err (by omega) rfl hG (by rw [hxe]; rfl) h3, rfl⟩
      refine wp_region_any (by kernel_rfl) ?_
      refine wpAny_take (i := 1) (v := .pointer (some ⟨rb, 0, none⟩)) rfl (by kernel_rfl) (by kernel_rfl) (by kernel_rfl) (fun _ _ _ h => h) (Or.inl ⟨by rfl, fun _ => rfl⟩) ?_
      simp only [Act.put]
      refine wpAny_ready (rs := [0, 2]) (by kernel_rfl) (by simp) ?_
      refine AllReady.cons rfl (fun K hK => ?_) (AllReady.cons rfl (fun K hK => ?_) AllReady.nil)
      · go_simp
        refine hK _ _ ?_
        clear hK K
        refine wpAny_ready (rs := [2]) (by kernel_rfl) (by simp) ?_
        refine AllReady.cons rfl (fun K hK => ?_) AllReady.nil
        go_simp
        refine (Hcall.out _ (by repeat (first | exact Chg.refl _ _ | apply Chg.drew))).mono ?_
        rintro e w5 ⟨hc5, out5, hG5, hend5⟩
        cases out5 with
        | err y =>
          obtain rfl := hend5
          exact ⟨rfl, Herr.out _ _ y (Chg.refl _ _).drew hc5 hG5⟩
        | ok u L3 =>
          obtain ⟨v5, o5, cap5, rfl, hF5, hR5, hE5⟩ := hend5
          obtain ⟨a5, capv5, rfl⟩ := hF5.agg
          refine hK _ _ ?_
          clear hK K d0 d1 d2
          refine wpAny_ready (rs := [3]) (by kernel_rfl) (by simp) ?_
          refine AllReady.cons rfl (fun K hK => ?_) AllReady.nil
          go_simp
          refine (two_any _ _ _ _ _ _ _ _).mono ?_
          rintro e w6 ⟨rfl, hc6, hb6⟩
          refine hK _ _ ?_
          clear hK K
          refine wpAny_ready (rs := [4]) (by kernel_rfl) (by simp) ?_
          refine AllReady.cons rfl (fun K hK => ?_) AllReady.nil
          have hsz := HL.out.s2
          have hrl := HL.out.rbl
          have ht6 := hc6.at (hc5.at (show W4.drew.heap[w2.heap.size]? = _ from Ht4.out) (fun e => by have e : w2.heap.size = rb := e; omega)) (fun e => e)
          obtain ⟨z0, z1, z2, hb3⟩ := HL.out.b3
          have hres6 := hc6.at (hc5.at (show W4.drew.heap[w.heap.size]? = _ from hc4.at hb3 (fun e => by have e : w.heap.size = rb := e; omega)) (fun e => by have e : w.heap.size = rb := e; omega)) (fun e => e)
          have hpost : ∀ w7, Chg (At1 w2.heap.size) w6 w7 → LevPost rb g 1 L w (.returned (.agg #[.int .i64 10, .string ⟨#[]⟩, .slice (some ⟨w5.heap.size + 3, 0, none⟩) 2 2])) (((w7.setCell ⟨w.heap.size, 0, none⟩ (.int .i64 10)).setCell ⟨w.heap.size, 1, none⟩ (.string ⟨#[]⟩)).setCell ⟨w.heap.size, 2, none⟩ (.slice (some ⟨w5.heap.size + 3, 0, none⟩) 2 2)) :=
            fun w7 h67 => HL.out.both (.op_ok (by omega) rfl hG (by rw [hxe]; rfl) hG5) (w4 := W4.drew) hc4.drew hc5 hF5 hR5 hE5 hc6 hb6 h67
          have Hpost := Lib.hid hpost
          clear hpost hb6 hb3 hF5 hR5
          obtain ⟨d0, d1, d2, f0, f1, f2⟩ := cells_three ht6
          have ht7 := block_three_all ht6 (.int .i64 10) (.string ⟨#[]⟩) (.slice (some ⟨w5.heap.size + 3, 0, none⟩) 2 2)
          have hc7 := chg_three w6 w2.heap.size (.int .i64 10) (.string ⟨#[]⟩) (.slice (some ⟨w5.heap.size + 3, 0, none⟩) 2 2)
          have hres7 := hc7.at hres6 (fun e => by have e : w.heap.size = w2.heap.size := e; omega)
          have Ht7 := Lib.hid ht7
          have Hres7 := Lib.hid hres7
          clear ht7 hres7 hres6 ht6
          go_simp
          refine hK _ _ ?_
          clear hK K d0 d1 d2 f0 f1 f2
          refine wpAny_done (by kernel_rfl) ?_ _
          generalize ((w6.setCell ⟨w2.heap.size, 0, none⟩ (.int .i64 10)).setCell ⟨w2.heap.size, 1, none⟩ (.string ⟨#[]⟩)).setCell ⟨w2.heap.size, 2, none⟩ (.slice (some ⟨w5.heap.size + 3, 0, none⟩) 2 2) = w7 at *
          obtain ⟨d0, d1, d2, _⟩ := cells_three Ht7.out
          obtain ⟨c0, c1, c2, f0, f1, f2⟩ := cells_three Hres7.out
          go_simp
          go_wp2
          obtain ⟨e0, e1, e2, _⟩ := cells_three (block_three_all Hres7.out (.int .i64 10) (.string ⟨#[]⟩) (.slice (some ⟨w5.heap.size + 3, 0, none⟩) 2 2))
          exact bodyPost_ret (v := .agg #[.int .i64 10, .string ⟨#[]⟩, .slice (some ⟨w5.heap.size + 3, 0, none⟩) 2 2]) (by simp [results, Try.results80, go_sem, e0, e1, e2]) rfl (Hpost.out _ hc7)
      · go_simp
        refine (Hcall.out _ (by repeat (first | exact Chg.refl _ _ | apply Chg.drew))).mono ?_
        rintro e w5 ⟨hc5, out5, hG5, hend5⟩
        cases out5 with
        | err y =>
          obtain rfl := hend5
          exact ⟨rfl, Herr.out _ _ y (Chg.refl _ _).drew hc5 hG5⟩
        | ok u L3 =>
          obtain ⟨v5, o5, cap5, rfl, hF5, hR5, hE5⟩ := hend5
          obtain ⟨a5, capv5, rfl⟩ := hF5.agg
          refine hK _ _ ?_
          clear hK K d0 d1 d2
          obtain ⟨d0, d1, d2, _⟩ := cells_three (hc5.at (show W4.drew.heap[w2.heap.size]? = _ from Ht4.out) (fun e => by have e : w2.heap.size = rb := e; have := HL.out.s2; omega))
          refine wpAny_ready (rs := [0]) (by kernel_rfl) (by simp) ?_
          refine AllReady.cons rfl (fun K hK => ?_) AllReady.nil
          go_simp
          refine hK _ _ ?_
          clear hK K d0 d1 d2
          refine wpAny_ready (rs := [3]) (by kernel_rfl) (by simp) ?_
          refine AllReady.cons rfl (fun K hK => ?_) AllReady.nil
          go_simp
          refine (two_any _ _ _ _ _ _ _ _).mono ?_
          rintro e w6 ⟨rfl, hc6, hb6⟩
          refine hK _ _ ?_
          clear hK K
          refine wpAny_ready (rs := [4]) (by kernel_rfl) (by simp) ?_
          refine AllReady.cons rfl (fun K hK => ?_) AllReady.nil
          have hsz := HL.out.s2
          have hrl := HL.out.rbl
          have ht6 := hc6.at (hc5.at (show W4.drew.heap[w2.heap.size]? = _ from Ht4.out) (fun e => by have e : w2.heap.size = rb := e; omega)) (fun e => e)
          obtain ⟨z0, z1, z2, hb3⟩ := HL.out.b3
          have hres6 := hc6.at (hc5.at (show W4.drew.heap[w.heap.size]? = _ from hc4.at hb3 (fun e => by have e : w.heap.size = rb := e; omega)) (fun e => by have e : w.heap.size = rb := e; omega)) (fun e => e)
          have hpost : ∀ w7, Chg (At1 w2.heap.size) w6 w7 → LevPost rb g 1 L w (.returned (.agg #[.int .i64 10, .string ⟨#[]⟩, .slice (some ⟨w5.heap.size + 3, 0, none⟩) 2 2])) (((w7.setCell ⟨w.heap.size, 0, none⟩ (.int .i64 10)).setCell ⟨w.heap.size, 1, none⟩ (.string ⟨#[]⟩)).setCell ⟨w.heap.size, 2, none⟩ (.slice (some ⟨w5.heap.size + 3, 0, none⟩) 2 2)) :=
            fun w7 h67 => HL.out.both (.op_ok (by omega) rfl hG (by rw [hxe]; rfl) hG5) (w4 := W4.drew) hc4.drew hc5 hF5 hR5 hE5 hc6 hb6 h67
          have Hpost := Lib.hid hpost
          clear hpost hb6 hb3 hF5 hR5
          obtain ⟨d0, d1, d2, f0, f1, f2⟩ := cells_three ht6
          have ht7 := block_three_all ht6 (.int .i64 10) (.string ⟨#[]⟩) (.slice (some ⟨w5.heap.size + 3, 0, none⟩) 2 2)
          have hc7 := chg_three w6 w2.heap.size (.int .i64 10) (.string ⟨#[]⟩) (.slice (some ⟨w5.heap.size + 3, 0, none⟩) 2 2)
          have hres7 := hc7.at hres6 (fun e => by have e : w.heap.size = w2.heap.size := e; omega)
          have Ht7 := Lib.hid ht7
          have Hres7 := Lib.hid hres7
          clear ht7 hres7 hres6 ht6
          go_simp
          refine hK _ _ ?_
          clear hK K d0 d1 d2 f0 f1 f2
          refine wpAny_done (by kernel_rfl) ?_ _
          generalize ((w6.setCell ⟨w2.heap.size, 0, none⟩ (.int .i64 10)).setCell ⟨w2.heap.size, 1, none⟩ (.string ⟨#[]⟩)).setCell ⟨w2.heap.size, 2, none⟩ (.slice (some ⟨w5.heap.size + 3, 0, none⟩) 2 2) = w7 at *
          obtain ⟨d0, d1, d2, _⟩ := cells_three Ht7.out
          obtain ⟨c0, c1, c2, f0, f1, f2⟩ := cells_three Hres7.out
          go_simp
          go_wp2
          obtain ⟨e0, e1, e2, _⟩ := cells_three (block_three_all Hres7.out (.int .i64 10) (.string ⟨#[]⟩) (.slice (some ⟨w5.heap.size + 3, 0, none⟩) 2 2))
          exact bodyPost_ret (v := .agg #[.int .i64 10, .string ⟨#[]⟩, .slice (some ⟨w5.heap.size + 3, 0, none⟩) 2 2]) (by simp [results, Try.results80, go_sem, e0, e1, e2]) rfl (Hpost.out _ hc7)
end Go.Proofs.Ytkgfdgfhpdhhaaa
