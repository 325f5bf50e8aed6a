/- ltl.Parse: what a text says, or where it is refused. Conditions: none. -/
import Derived.Test.YtkgfdgfhpdhhaaaGreatCatch
import Derived.Test.YtkgfdgfhpdhhaaaGreatPdepth
namespace Go.Proofs.YtkgfdgfhpdhhaaaGreat
open Go.ChangeShapes Go.WideShapes Go.ChangeAt Go.RowKit

def ParseEnd (lo : Nat) (w' : World) (e : Ending) : Res → Prop
  | .ok t => ∃ v, Fresh (Ge lo) w' t v ∧ e = .returned (.tuple #[v, .agg #[.int .i64 0, .int .i64 0]])
  | .err x => e = .returned (.tuple #[.agg #[.int .i64 0, .string ⟨#[]⟩, .slice none 0 0], .agg #[.int .i64 x.1, .int .i64 x.2]])
def ParsePost (s : List UInt8) (w : World) (e : Ending) (w' : World) : Prop := Chg Nob w w' ∧ ∃ r, PR s r ∧ ParseEnd w.heap.size w' e r

set_option maxRecDepth 100000 in
theorem results25 {B : Nat} {tm : Array Value} {w : World} {a0 a1 a2 m0 m1 : Value} (h2 : tm[2]? = some (.pointer (some ⟨B, 0, none⟩))) (h3 : tm[3]? = some (.pointer (some ⟨B + 1, 0, none⟩))) (hb : w.heap[B]? = some (.cells #[a0, a1, a2] 24)) (hb1 : w.heap[B + 1]? = some (.cells #[m0, m1] 83)) :
    (results Tryz.f42 tm).run Tryz.prog w = .ok (.tuple #[.agg #[a0, a1, a2], .agg #[m0, m1]]) w := by
  obtain ⟨c0, c1, c2, _⟩ := cells_three hb
  obtain ⟨d0, d1, _⟩ := cell_two hb1
  simp [results, Tryz.results42, go_sem, h2, h3, c0, c1, c2, d0, d1]

theorem thrown {s : List UInt8} {w wr : World} {B : Nat} {c z : Int} {y : Int × Nat} {tm : Array Value} (hp : PR s (.err y)) (hc1 : c = y.1) (hz1 : z = y.2) (hB : B = w.heap.size) (hc : Chg Nob w wr) (hb : ∃ a0 a1 a2, wr.heap[B]? = some (.cells #[a0, a1, a2] 24)) (hb1 : ∃ m0 m1, wr.heap[B + 1]? = some (.cells #[m0, m1] 83))
    (h2 : tm[2]? = some (.pointer (some ⟨B, 0, none⟩))) (h3 : tm[3]? = some (.pointer (some ⟨B + 1, 0, none⟩))) :
    bodyPostD Tryz.prog Tryz.f42 (ParsePost s w) (Exit.panic (stopE c z)) { tmps := tm, defers := [{ target := .fn (.func 68) #[.pointer (some ⟨B, 0, none⟩), .pointer (some ⟨B + 1, 0, none⟩)], args := #[] }] } wr := by
  obtain ⟨a0, a1, a2, hb⟩ := hb
  obtain ⟨m0, m1, hb1⟩ := hb1
  subst hc1 hz1
  refine leaves_cons (f := 68) (args := #[.pointer (some ⟨B, 0, none⟩), .pointer (some ⟨B + 1, 0, none⟩)]) (by simp) (by simp [go_sem]) ?_
  refine (pcatch_stop B (B + 1) _ _ a0 a1 a2 m0 m1 _ hb hb1 (by omega)).mono ?_
  rintro e u' w'' ⟨rfl, rfl, hc2, hb2, hb3⟩
  exact ⟨_, results25 h2 h3 hb2 hb3, hc.trans hc2 (fun i hi e => by rcases e with e | e <;> omega), .err y, hp, rfl⟩

theorem done25 {s : List UInt8} {w wr : World} {B : Nat} {tm : Array Value} {t : T} {a0 a1 a2 : Value} (hp : PR s (.ok t)) (hB : B = w.heap.size) (hF : Fresh (Ge w.heap.size) wr t (.agg #[a0, a1, a2])) (hc : Chg Nob w wr)
    (hb : wr.heap[B]? = some (.cells #[a0, a1, a2] 24)) (hb1 : wr.heap[B + 1]? = some (.cells #[.int .i64 0, .int .i64 0] 83))
    (h2 : tm[2]? = some (.pointer (some ⟨B, 0, none⟩))) (h3 : tm[3]? = some (.pointer (some ⟨B + 1, 0, none⟩))) :
    bodyPostD Tryz.prog Tryz.f42 (ParsePost s w) Exit.ret { tmps := tm, defers := [{ target := .fn (.func 68) #[.pointer (some ⟨B, 0, none⟩), .pointer (some ⟨B + 1, 0, none⟩)], args := #[] }] } wr := by
  subst hB
  refine leaves_cons (f := 68) (args := #[.pointer (some ⟨w.heap.size, 0, none⟩), .pointer (some ⟨w.heap.size + 1, 0, none⟩)]) (by simp) (by simp [go_sem]) ?_
  refine (pcatch_idle ⟨w.heap.size, 0, none⟩ ⟨w.heap.size + 1, 0, none⟩ _).mono ?_
  rintro e u' w'' ⟨rfl, rfl, rfl⟩
  exact ⟨_, results25 h2 h3 hb hb1, hc, .ok t, hp, _, hF, rfl⟩

theorem ownsRow_capb {w : World} {B : Nat} {e : TypeId} {z g n cap : Nat} {xs : List Value} (h : w.ownsRow B e z (.slice (some ⟨g, 0, none⟩) n cap) n xs) : cap ≤ 9223372036854775807 := by
  rcases h.2 with ⟨h2, _⟩ | ⟨g', cap', cur, h2, hb, hg, hnc, hcm, hcs, ht⟩
  · cases h2
  · cases h2; unfold maxLen at hcm; omega
theorem ownsRow_tokat {w : World} {B g n cap : Nat} {L : List Tok} (h : w.ownsRow B 121 2 (.slice (some ⟨g, 0, none⟩) n cap) n (tokCells L)) : TokAt w g 0 L := by
  intro j x hx
  have key : ∀ (L : List Tok) (j : Nat) (x : Tok), L[j]? = some x → (tokCells L)[j * 2]? = some (.string ⟨x.1.toArray⟩) ∧ (tokCells L)[j * 2 + 1]? = some (.int .i64 (x.2 : Int)) := by
    intro L
    induction L with
    | nil => intro j x h; simp at h
    | cons y L ih =>
      intro j x h
      have e : tokCells (y :: L) = .string ⟨y.1.toArray⟩ :: .int .i64 (y.2 : Int) :: tokCells L := rfl
      rw [e]
      cases j with
      | zero =>
        obtain rfl : y = x := by simpa using h
        exact ⟨rfl, rfl⟩
      | succ j =>
        have := ih j x (by simpa using h)
        rw [show (j + 1) * 2 = j * 2 + 1 + 1 by omega]
        simpa using this
  have := key L j x hx
  rw [Nat.zero_add]
  exact ⟨ownsRow_at h this.1, ownsRow_at h this.2⟩

set_option maxRecDepth 100000 in
set_option maxHeartbeats 4000000 in
theorem Parse_any (s : List UInt8) (w : World) : Calls Tryz.prog 42 #[.string ⟨s.toArray⟩] w (ParsePost s w) := by
  have hmf : ∀ (fn : Fn) (first cap : Array Value) (w : World), (Instr.makeFunc fn first cap).run Tryz.prog w = .ok (.func fn first cap) w := fun _ _ _ _ => rfl
  have hW : Hid (∃ W, W = (w.alloc (.cells #[.int .i64 0, .string ⟨#[]⟩, .slice none 0 0] 24)).alloc (.cells #[.int .i64 0, .int .i64 0] 83) ∧ Chg Nob w W ∧ W.heap.size = w.heap.size + 2 ∧ W.heap[w.heap.size]? = some (.cells #[.int .i64 0, .string ⟨#[]⟩, .slice none 0 0] 24 (0, 0)) ∧ W.heap[w.heap.size + 1]? = some (.cells #[.int .i64 0, .int .i64 0] 83 (0, 0))) := by
    refine ⟨_, rfl, ((Chg.refl _ _).alloc _).alloc _, by rw [World.size_alloc, World.size_alloc], ((Chg.refl Nob _).alloc _).at (heap_alloc_new w _) (fun e => e), ?_⟩
    have := heap_alloc_new (w.alloc (.cells #[.int .i64 0, .string ⟨#[]⟩, .slice none 0 0] 24)) (.cells #[.int .i64 0, .int .i64 0] 83)
    rwa [World.size_alloc] at this
  by_cases hlong : 4096 < s.length
  · have hl : (4096 : Int) < (s.length : Int) := by omega
    go_enter_defers Tryz.func42, Tryz.ntmps42
    go_wp2_with fail
    obtain ⟨W, rfl, hc, hs, hb, hb1⟩ := hW.out
    (with_reducible refine (give_any _ _ _).mono ?_)
    rintro e w1 ⟨rfl, rfl⟩
    go_wp2
    exact thrown (PR.long hlong) rfl rfl rfl hc ⟨_, _, _, hb⟩ ⟨_, _, hb1⟩ rfl rfl
  · have hl : ¬ (4096 : Int) < (s.length : Int) := by omega
    have hlen : s.length ≤ 4096 := by omega
    go_enter_defers Tryz.func42, Tryz.ntmps42
    go_wp2_with fail
    obtain ⟨W, hWe, hc, hs, hb, hb1⟩ := hW.out
    rw [← hWe]
    clear hW hWe
    have Hs := Lib.hid hs
    have Hb := Lib.hid hb
    have Hb1 := Lib.hid hb1
    clear hs hb hb1
    (with_reducible refine (tokens_any s _ hlen).mono ?_)
    rintro e w1 ⟨hc1, ⟨l, g, cap, htok, rfl, hrow⟩ | ⟨p, htok, rfl⟩⟩
    · have HT := Lib.hid htok
      have hcap := ownsRow_cap hrow
      have hcb : cap ≤ 9223372036854775807 := ownsRow_capb hrow
      have Hgb : Hid (w.heap.size + 1 < g) := (show _ < _ by have h1 := (hrow.lt g rfl).1; have h2 := Hs.out; omega)
      have hR : Rs (w1.alloc (.cells #[.slice (some ⟨g, 0, none⟩) (l.length + 1) cap] 119)) w1.heap.size g 0 cap (l ++ [([], s.length)]) := by
        refine ⟨by rw [List.length_append]; exact heap_alloc_new w1 _, by rw [List.length_append]; exact hcap, hcb, (ownsRow_tokat hrow).chg ((Chg.refl Nob w1).alloc _) (fun e => e), ?_⟩
        have := ownsRow_lt_b hrow
        omega
      have hcall := (levels_any _ _ (Nat.le_refl _) (toks_ends htok s.length)).1 _ _ _ _ _ hR (by rw [World.size_alloc]; omega)
      have hs2 : (w1.alloc (.cells #[.slice (some ⟨g, 0, none⟩) (l.length + 1) cap] 119)).heap.size = w1.heap.size + 1 := World.size_alloc _ _
      have hc2 := hc1.alloc (.cells #[.slice (some ⟨g, 0, none⟩) (l.length + 1) cap] 119)
      clear hR htok hrow
      go_wp2_with fail
      generalize w1.alloc (.cells #[.slice (some ⟨g, 0, none⟩) (l.length + 1) cap] 119) = W2 at *
      have Hs2 := Lib.hid hs2
      clear hs2
      (with_reducible refine hcall.mono ?_)
      clear hcall
      rintro e w3 ⟨hc3, out, hG, hend⟩
      have z1 := hc1.size
      have hs := Hs.out
      have hb3 := hc3.at (hc2.at Hb.out (fun e => e)) (fun e => by have e : w.heap.size = w1.heap.size := e; omega)
      have hb13 := hc3.at (hc2.at Hb1.out (fun e => e)) (fun e => by have e : w.heap.size + 1 = w1.heap.size := e; omega)
      have hcw3 : Chg Nob w w3 := ((hc.trans1 hc2).any (S := At1 w1.heap.size)).trans1 hc3 |>.mono (fun i hi e => by have e : i = w1.heap.size := e; omega)
      cases out with
      | err y =>
        obtain rfl := hend
        go_wp2
        exact thrown (PR.gram hlen HT.out hG) rfl rfl rfl hcw3 ⟨_, _, _, hb3⟩ ⟨_, _, hb13⟩ rfl rfl
      | ok t L' =>
        obtain ⟨v, o', cap', rfl, hF, hR3, hE3⟩ := hend
        obtain ⟨x, L2, rfl⟩ := hE3.cons
        obtain ⟨ao, capv, rfl⟩ := hF.agg
        have hs2 := Hs2.out
        have hz3 := hc3.size
        have k3 := chg_three w3 w.heap.size (.int .i64 t.kind) (.string ⟨t.name.toArray⟩) (.slice ao t.kids.length capv)
        have hb4 := block_three_all hb3 (.int .i64 t.kind) (.string ⟨t.name.toArray⟩) (.slice ao t.kids.length capv)
        have hb14 := k3.at hb13 (fun e => by have e : w.heap.size + 1 = w.heap.size := e; omega)
        have hg1 := hR3.g_lt
        have hgB : g ≠ w.heap.size := by have := Hgb.out; omega
        have hR4 := hR3.at1 k3 (by omega) hgB
        have hF4 := hF.chg k3 (fun b hb hb2 e => by have e : b = w.heap.size := e; unfold Ge at hb; omega) (R' := fun b => w1.heap.size + 1 ≤ b) (fun b hb => by unfold Ge at hb; omega)
        have hcw4 : Chg Nob w (((w3.setCell ⟨w.heap.size, 0, none⟩ (.int .i64 t.kind)).setCell ⟨w.heap.size, 1, none⟩ (.string ⟨t.name.toArray⟩)).setCell ⟨w.heap.size, 2, none⟩ (.slice ao t.kids.length capv)) := (hcw3.any (S := At1 w.heap.size)).trans1 k3 |>.mono (fun i hi e => by have e : i = w.heap.size := e; omega)
        obtain ⟨c0, c1, c2, f0, f1, f2⟩ := cells_three hb3
        have y0 := cell_row hR4.box 0 (v := .slice (some ⟨g, o', none⟩) (x :: L2).length cap') rfl
        have y1 := (hR4.tok 0 x rfl).1
        have y2 := (hR4.tok 0 x rfl).2
        rw [Nat.zero_mul, Nat.add_zero] at y1 y2
        simp only [List.length_cons] at y0
        have hl0 : (0 : Int) < (L2.length : Int) + 1 := by omega
        have Hb4 := Lib.hid hb4
        have Hb14 := Lib.hid hb14
        have HF4 := Lib.hid hF4
        have hsz := G_lev_size hG
        have hcnt := toksF_count _ _ _ _ HT.out
        rw [List.length_append] at hsz
        simp only [List.length_cons, List.length_nil] at hsz
        have Hsz : Hid (sizeT t ≤ 1000000) := (show _ ≤ _ by omega)
        obtain ⟨xt, xp⟩ := x
        clear hb3 hb13 hb4 hb14 hR3 hR4 hF hF4 k3 hsz hcnt
        cases hx : (xt == []) with
        | false =>
          have hxi : xt.isEmpty = false := by cases xt with
            | nil => cases hx
            | cons _ _ => rfl
          have hx2 : (xt != []) = true := by rw [bne, hx]; rfl
          have hxn := beq_eq_false_iff_ne.1 hx
          have Hxn : Hid (xt ≠ []) := hxn
          clear hxn
          go_wp2_with fail
          (with_reducible refine (give_any _ _ _).mono ?_)
          rintro e w5 ⟨rfl, rfl⟩
          go_wp2
          exact thrown (PR.more hlen HT.out hG Hxn.out) rfl rfl rfl hcw4 ⟨_, _, _, Hb4.out⟩ ⟨_, _, Hb14.out⟩ rfl rfl
        | true =>
          obtain rfl : xt = [] := beq_iff_eq.1 hx
          clear hx
          have hd := pdepth_any _ t _ _ HF4.out.tree Hsz.out
          obtain ⟨d0, d1, d2, _⟩ := cells_three Hb4.out
          by_cases hdeep : 100 < depthT t
          · have hdi : (100 : Int) < (depthT t : Int) := by omega
            go_wp2_with fail
            (with_reducible refine hd.mono ?_)
            rintro e w5 ⟨rfl, hc5⟩
            clear hd
            go_wp2_with fail
            (with_reducible refine (give_any _ _ _).mono ?_)
            rintro e w5 ⟨rfl, rfl⟩
            go_wp2
            exact thrown (PR.deep hlen HT.out hG rfl hdeep) rfl rfl rfl (hcw4.trans1 hc5) ⟨_, _, _, hc5.at Hb4.out (fun e => e)⟩ ⟨_, _, hc5.at Hb14.out (fun e => e)⟩ rfl rfl
          · have hdi : ¬ (100 : Int) < (depthT t : Int) := by omega
            go_wp2_with fail
            (with_reducible refine hd.mono ?_)
            rintro e w5 ⟨rfl, hc5⟩
            clear hd c0 c1 c2 f0 f1 f2 d0 d1 d2 y0 y1 y2
            have hb5 := hc5.at Hb4.out (fun e => e)
            have hb15 := hc5.at Hb14.out (fun e => e)
            have HF5 := Lib.hid (HF4.out.chg hc5 (fun _ _ _ e => e) (fun _ h => h))
            have hcw5 := hcw4.trans1 hc5
            obtain ⟨c0, c1, c2, f0, f1, f2⟩ := cells_three hb5
            obtain ⟨d0, d1, g0, g1⟩ := cell_two hb15
            go_wp2_with fail
            have k6 := chg_three w5 w.heap.size (.int .i64 t.kind) (.string ⟨t.name.toArray⟩) (.slice ao t.kids.length capv)
            have hb6 := block_three_all hb5 (.int .i64 t.kind) (.string ⟨t.name.toArray⟩) (.slice ao t.kids.length capv)
            have hb16 := k6.at hb15 (fun e => by have e : w.heap.size + 1 = w.heap.size := e; omega)
            have k7 : Chg (At1 (w.heap.size + 1)) (((w5.setCell ⟨w.heap.size, 0, none⟩ (.int .i64 t.kind)).setCell ⟨w.heap.size, 1, none⟩ (.string ⟨t.name.toArray⟩)).setCell ⟨w.heap.size, 2, none⟩ (.slice ao t.kids.length capv))
                (((((w5.setCell ⟨w.heap.size, 0, none⟩ (.int .i64 t.kind)).setCell ⟨w.heap.size, 1, none⟩ (.string ⟨t.name.toArray⟩)).setCell ⟨w.heap.size, 2, none⟩ (.slice ao t.kids.length capv)).setCell ⟨w.heap.size + 1, 0, none⟩ (.int .i64 0)).setCell ⟨w.heap.size + 1, 1, none⟩ (.int .i64 0)).drew :=
              (((Chg.refl (At1 (w.heap.size + 1)) _).setCell (p := ⟨w.heap.size + 1, 0, none⟩) (fun _ => rfl) _).setCell (p := ⟨w.heap.size + 1, 1, none⟩) (fun _ => rfl) _).drew
            have hb7 := k7.at hb6 (fun e => by have e : w.heap.size = w.heap.size + 1 := e; omega)
            have hb17 := block_two_set1 (u := .int .i64 0) (block_two_set0 (u := .int .i64 0) hb16)
            have k57 : Chg (fun k => k = w.heap.size ∨ k = w.heap.size + 1) w5 _ := (k6.mono (fun _ _ e => .inl e)).trans k7 (fun _ _ e => .inr e)
            have hcw7 : Chg Nob w _ := (hcw5.any (S := fun k => k = w.heap.size ∨ k = w.heap.size + 1)).trans1 k57 |>.mono (fun i hi e => by rcases e with e | e <;> omega)
            have HF7 : Hid (Fresh (Ge w.heap.size) _ t _) := HF5.out.chg k57 (fun b hb hb2 e => by have hb : w1.heap.size + 1 ≤ b := hb; rcases e with e | e <;> omega) (fun b hb => by have hb : w1.heap.size + 1 ≤ b := hb; unfold Ge; omega)
            have H7 := Lib.hid hb7
            have H17 := Lib.hid hb17
            have Hc7 := Lib.hid hcw7
            clear hb5 hb15 hb6 hb16 hb7 hb17 k6 k7 k57 hcw7
            go_region
            go_wp2
            exact done25 (PR.ok hlen HT.out hG rfl (by omega)) rfl HF7.out Hc7.out H7.out H17.out rfl rfl
    · go_wp2
      exact thrown (PR.token hlen htok) rfl rfl rfl (hc.trans1 hc1) ⟨_, _, _, hc1.at Hb.out (fun e => e)⟩ ⟨_, _, hc1.at Hb1.out (fun e => e)⟩ rfl rfl
end Go.Proofs.YtkgfdgfhpdhhaaaGreat
