/- Parts of the walks and of the plain theory: The pairs of two rows of moves, ranged over. Conditions: as each theorem states. -/
import Derived.Test.YtkgfdgfhpdhhaaaGreatU20
import Derived.Test.YtkgfdgfhpdhhaaaGreatU12
namespace Go.Proofs.YtkgfdgfhpdhhaaaGreat
open Go.ChangeShapes Go.WideShapes Go.RowKit Go.Shelf
attribute [local go_sem] Oper.semAt_some
theorem range_prefix {a b : Nat} (h : a ≤ b) : List.range a <+: List.range b := ⟨(List.range (b - a)).map (a + ·), by rw [← List.range_add, Nat.add_sub_cancel' h]⟩
theorem mul_lt_pre {i j A B : Nat} (hi : i < A) (hj : j < B) : i * B + j < A * B := by
  have : (i + 1) * B ≤ A * B := Nat.mul_le_mul_right _ hi
  rw [Nat.succ_mul] at this
  omega
theorem KeepS.cell {S : Nat → Prop} {W W' : World} (h : KeepS S W W') {a : Addr} {v : Value} (hc : W.cell? a = some v) (hn : ¬ S a.block) : W'.cell? a = some v := by
  have hl := World.block_lt_of_cell? W a hc
  rw [← hc]
  refine World.cell?_of_block ?_
  rw [h.same a.block _ (Array.getElem?_eq_getElem hl) hn, Array.getElem?_eq_getElem hl]
def OldB (w : World) (V0 : Nat → Prop) (wr : World) : Prop := KeepS (fun k => w.heap.size ≤ k ∨ V0 k) w wr
def OldD (w : World) (V0 D : Nat → Prop) : Prop := ∀ k, k < w.heap.size → D k → V0 k
theorem OldB.nob {w : World} {V0 : Nat → Prop} {A B : World} (h : OldB w V0 A) (hc : Chg Nob A B) : OldB w V0 B := h.trans ((KeepS.of_chg hc).mono (fun _ e => e.elim))
theorem OldB.round {w : World} {V0 D : Nat → Prop} {A B : World} {l : Nat} (h : OldB w V0 A) (hl : w.heap.size ≤ l) (hD : OldD w V0 D) (hk : KeepS (fun k => k = l ∨ D k) A B) : OldB w V0 B :=
  h.trans (hk.mono (fun k e => by
    rcases e with rfl | e
    · exact .inl hl
    · rcases Nat.lt_or_ge k w.heap.size with hlt | hge
      · exact .inr (hD k hlt e)
      · exact .inl hge))
theorem OldB.cell {w : World} {V0 : Nat → Prop} {A : World} (h : OldB w V0 A) {a : Addr} {v : Value} (hc : w.cell? a = some v) (hn : ¬ V0 a.block) : A.cell? a = some v :=
  KeepS.cell h hc (fun e => e.elim (fun e => by have := World.block_lt_of_cell? w a hc; omega) hn)
theorem OldD.grow {w : World} {V0 D D' : Nat → Prop} {n : Nat} (h : OldD w V0 D) (hg : Grows D D' n) (hn : w.heap.size ≤ n) : OldD w V0 D' := fun k hk hd => by
  rcases hg k hd with e | e
  · exact h k hk e
  · omega
def mS0 : MvS := (m0, none, 0)
def aggM (x : MvS) : Value := .agg (cellsM x).toArray
def encM (xs ys : List MvS) (p : Nat) : Array Value := #[aggM (xs.getD (p / ys.length) mS0), aggM (ys.getD (p % ys.length) mS0)]
def MCl (W : World) (ao : Option Addr) (xs : List MvS) : Prop := ∀ j x, xs[j]? = some x → ∃ b o, ao = some ⟨b, o, none⟩ ∧ W.cell? ⟨b, o + j * 3, none⟩ = some (.int .u64 x.1.yes) ∧ W.cell? ⟨b, o + j * 3 + 1, none⟩ = some (.int .u64 x.1.no) ∧ W.cell? ⟨b, o + j * 3 + 2, none⟩ = some (.slice x.2.1 x.1.to.length x.2.2)
theorem MIn.cl {W : World} {ao : Option Addr} {xs : List MvS} (h : MIn W ao xs) : MCl W ao xs := fun j x hj => by
  obtain ⟨b, o, e, c0, c1, c2, _⟩ := h j x hj
  exact ⟨b, o, e, c0, c1, c2⟩
theorem MCl.old {w W : World} {V0 : Nat → Prop} {ao : Option Addr} {xs : List MvS} (h : MCl w ao xs) (ho : OldB w V0 W) (hn : xs ≠ [] → ∀ a, ao = some a → ¬ V0 a.block) : MCl W ao xs := fun j x hj => by
  obtain ⟨b, o, rfl, c0, c1, c2⟩ := h j x hj
  have := hn (fun e => by rw [e] at hj; simp at hj) _ rfl
  exact ⟨b, o, rfl, ho.cell c0 this, ho.cell c1 this, ho.cell c2 this⟩
theorem pairsM_any (v1 v2 : Value) (h1 : ∃ a n c, v1 = .slice a n c) (h2 : ∃ a n c, v2 = .slice a n c) (w : World) : Calls Tryz.prog 156 #[v1, v2] w fun e w' => e = .returned (.func (.func 186) #[] #[.pointer (some ⟨w.heap.size, 0, none⟩), .pointer (some ⟨w.heap.size + 1, 0, none⟩)]) ∧ w' = (w.alloc (.cells #[v1] 67)).alloc (.cells #[v2] 67) := by
  have hmf : ∀ (fn : Fn) (first cap : Array Value) (w : World), (Instr.makeFunc fn first cap).run Tryz.prog w = .ok (.func fn first cap) w := fun _ _ _ _ => rfl
  obtain ⟨a1, n1, c1, rfl⟩ := h1
  obtain ⟨a2, n2, c2, rfl⟩ := h2
  go_enter Tryz.func156, Tryz.ntmps156
  go_wp2
  go_ret
  exact ⟨rfl, rfl⟩
set_option maxRecDepth 100000 in
set_option maxHeartbeats 4000000 in
theorem pairsM_iter (n : Nat) (hn : 1 ≤ n) (V0 : Nat → Prop) (bx bz : Nat) {ax ay : Option Addr} {cx cy : Nat} {xs ys : List MvS} (w : World) (hbx : w.heap[bx]? = some (.cells #[.slice ax xs.length cx] 67 (0, 0))) (hby : w.heap[bz]? = some (.cells #[.slice ay ys.length cy] 67 (0, 0)))
    (hlx : xs.length ≤ 1000000) (hly : ys.length ≤ 1000000) (hx : MCl w ax xs) (hy : MCl w ay ys) (hvx : xs ≠ [] → ∀ a, ax = some a → ¬ V0 a.block) (hvy : ys ≠ [] → ∀ a, ay = some a → ¬ V0 a.block) (hvbx : ¬ V0 bx) (hvby : ¬ V0 bz) :
    IterD n 186 #[.pointer (some ⟨bx, 0, none⟩), .pointer (some ⟨bz, 0, none⟩)] (encM xs ys) V0 (List.range (xs.length * ys.length)) w := by
  intro l J Jp W hcW hlo hlW hJlt hJ hY h0
  have c0 := cell_row hbx 0 (v := .slice ax xs.length cx) rfl
  have d0 := cell_row hby 0 (v := .slice ay ys.length cy) rfl
  have HC := Lib.hid (show ∀ A, OldB w V0 A → A.cell? ⟨bx, 0, none⟩ = some (.slice ax xs.length cx) ∧ A.cell? ⟨bz, 0, none⟩ = some (.slice ay ys.length cy) ∧ MCl A ax xs ∧ MCl A ay ys from fun A h => ⟨h.cell c0 hvbx, h.cell d0 hvby, hx.old h hvx, hy.old h hvy⟩)
  have HO : Hid (OldB w V0 W) := (show OldB w V0 W from (KeepS.of_chg hcW).mono (fun _ e => e.elim))
  have HY := Lib.hid hY
  have HJ := Lib.hid hJ
  have HJl := Lib.hid hJlt
  have Hlo := Lib.hid hlo
  have Hsz := Lib.hid hcW.size
  have HD0 : Hid (OldD w V0 V0) := (show OldD w V0 V0 from fun _ _ h => h)
  have h0' := Lib.hid h0
  obtain ⟨c0, -⟩ := HC.out W HO.out
  clear hY hJ hJlt hx hy hbx hby d0 h0 hvx hvy hvbx hvby hlo
  refine callsIn_of_wp Tryz.func186 rfl trivial ?_ rfl
  simp only [Tryz.ntmps186, List.size_toArray, List.length_cons, List.length_nil, Nat.reduceAdd, Nat.reduceSub, Array.replicate_succ, Array.replicate_zero, List.push_toArray, List.append_toArray, List.nil_append, List.cons_append]
  gi_wp2
  clear c0
  gi_loopw [10] (fun iv wr => ∃ (i : Nat) (D : Nat → Prop), iv = .int .i64 (i : Int) ∧ i ≤ xs.length ∧ Hid (J (List.range (i * ys.length)) D wr) ∧ Hid (OldB w V0 wr) ∧ Hid (OldD w V0 D) ∧ Hid (W.heap.size ≤ wr.heap.size)) (fun iv _ => xs.length - (intOf iv).toNat)
  case atStart => exact ⟨0, V0, rfl, Nat.zero_le _, (by show J (List.range (0 * ys.length)) V0 W; rw [Nat.zero_mul]; exact h0'.out), HO, HD0, (show W.heap.size ≤ W.heap.size from Nat.le_refl _)⟩
  case round =>
    obtain ⟨i, D, rfl, hi, Hj, Ho, HD, Hw⟩ := hrel
    by_cases hlt : i < xs.length
    · obtain ⟨x, hxi⟩ : ∃ x, xs[i]? = some x := ⟨_, List.getElem?_eq_getElem hlt⟩
      obtain ⟨-, hdb, hX, -⟩ := HC.out wr Ho.out
      obtain ⟨b, o, rfl, x0, x1, x2⟩ := hX i x hxi
      have Hxd : Hid (xs.getD i mS0 = x) := (show xs.getD i mS0 = x by rw [List.getD_eq_getElem?_getD, hxi]; rfl)
      have hii : (i : Int) < (xs.length : Int) := by omega
      have hi0 : (0 : Int) ≤ (i : Int) := by omega
      obtain ⟨Q, hQ, hcQ, hbQ, hsQ⟩ := box_cells wr #[.int .u64 x.1.yes, .int .u64 x.1.no, .slice x.2.1 x.1.to.length x.2.2] 75
      have HjQ : Hid (J (List.range (i * ys.length)) D Q) := (show J (List.range (i * ys.length)) D Q from HJ.out _ _ _ _ Hj.out hcQ.any)
      have HoQ : Hid (OldB w V0 Q) := (show OldB w V0 Q from Ho.out.nob hcQ)
      have hnq : Hid (¬ D wr.heap.size) := (show ¬ D wr.heap.size from fun e => by have := HJl.out _ _ _ Hj.out _ e; omega)
      have Hqs : Hid (wr.heap.size < Q.heap.size ∧ W.heap.size ≤ wr.heap.size) := (show wr.heap.size < Q.heap.size ∧ W.heap.size ≤ wr.heap.size from ⟨by omega, Hw.out⟩)
      have HbQ : Hid (Q.heap[wr.heap.size]? = some (.cells #[.int .u64 x.1.yes, .int .u64 x.1.no, .slice x.2.1 x.1.to.length x.2.2] 75 (0, 0))) := Lib.hid hbQ
      obtain ⟨-, hdbQ, -, -⟩ := HC.out Q HoQ.out
      clear hX hxi hbQ hcQ hsQ hdb
      rw [hQ] at hdbQ
      gi_wp2
      rw [← hQ]
      clear hQ x0 x1 x2 hdbQ
      generalize hqb : wr.heap.size = qb at *
      clear hqb
      gi_loopw [16] (fun jv W2 => ∃ (j : Nat) (D2 : Nat → Prop), jv = .int .i64 (j : Int) ∧ j ≤ ys.length ∧ Hid (J (List.range (i * ys.length + j)) D2 W2) ∧ Hid (OldB w V0 W2) ∧ Hid (OldD w V0 D2) ∧ Hid (¬ D2 qb) ∧ Hid (W2.heap[qb]? = some (.cells #[.int .u64 x.1.yes, .int .u64 x.1.no, .slice x.2.1 x.1.to.length x.2.2] 75 (0, 0)))) (fun jv _ => ys.length - (intOf jv).toNat)
      case atStart => exact ⟨0, D, rfl, Nat.zero_le _, HjQ, HoQ, HD, hnq, HbQ⟩
      case round =>
        obtain ⟨j, D2, rfl, hj, Hj2, Ho2, HD2, Hnq2, Hb2⟩ := hrel
        by_cases hjt : j < ys.length
        · obtain ⟨y, hyj⟩ : ∃ y, ys[j]? = some y := ⟨_, List.getElem?_eq_getElem hjt⟩
          obtain ⟨-, -, -, hY2⟩ := HC.out wr Ho2.out
          obtain ⟨b', o', rfl, y0, y1, y2⟩ := hY2 j y hyj
          have hjj : (j : Int) < (ys.length : Int) := by omega
          have hj0 : (0 : Int) ≤ (j : Int) := by omega
          obtain ⟨E, hE, hcE, hbE, hsE⟩ := box_cells wr #[.int .u64 y.1.yes, .int .u64 y.1.no, .slice y.2.1 y.1.to.length y.2.2] 75
          have hqlt : qb < wr.heap.size := (Array.getElem?_eq_some_iff.1 Hb2.out).1
          obtain ⟨q0, q1, q2, _⟩ := cells_three (hcE.at Hb2.out (fun e => e))
          obtain ⟨e0, e1, e2, _⟩ := cells_three hbE
          have HbE : Hid (E.heap[qb]? = some (.cells #[.int .u64 x.1.yes, .int .u64 x.1.no, .slice x.2.1 x.1.to.length x.2.2] 75 (0, 0))) := Lib.hid (hcE.at Hb2.out (fun e => e))
          have HoE : Hid (OldB w V0 E) := (show OldB w V0 E from Ho2.out.nob hcE)
          have hyd : ys.getD j mS0 = y := by rw [List.getD_eq_getElem?_getD, hyj]; rfl
          have hy := HY.out (List.range (i * ys.length + j)) (i * ys.length + j) D2 E (HJ.out _ _ _ _ Hj2.out hcE.any) (by rw [← List.range_succ]; exact range_prefix (mul_lt_pre hlt hjt))
          have henc : encM xs ys (i * ys.length + j) = #[.agg #[.int .u64 x.1.yes, .int .u64 x.1.no, .slice x.2.1 x.1.to.length x.2.2], .agg #[.int .u64 y.1.yes, .int .u64 y.1.no, .slice y.2.1 y.1.to.length y.2.2]] := by
            unfold encM
            rw [show (i * ys.length + j) / ys.length = i by rw [Nat.mul_comm, Nat.mul_add_div (by omega), Nat.div_eq_of_lt hjt, Nat.add_zero], show (i * ys.length + j) % ys.length = j by rw [Nat.mul_comm, Nat.mul_add_mod, Nat.mod_eq_of_lt hjt], Hxd.out, hyd]
            rfl
          rw [henc] at hy
          have HsE : Hid (qb < E.heap.size ∧ l < qb) := (show qb < E.heap.size ∧ l < qb from ⟨by omega, by have := Hqs.out.2; omega⟩)
          obtain ⟨fn, tmps, assign, body, hyr, hR3⟩ := hy
          clear hY2 hyj hyd henc hbE hcE hsE hqlt
          rw [hE] at q0 q1 q2 e0 e1 e2 hyr
          gi_wp2
          rw [← hE]
          clear hE y0 y1 y2
          refine hR3.mono ?_
          clear hR3 hyr q0 q1 q2 e0 e1 e2
          rintro e W3 (⟨rfl, hk3, D3, hj3, hg3⟩ | ⟨ch, rfl, hp⟩)
          · have Hj3 : Hid (J (List.range (i * ys.length + (j + 1))) D3 W3) := (show J (List.range (i * ys.length + (j + 1))) D3 W3 by rw [← Nat.add_assoc, List.range_succ]; exact hj3)
            have Ho3 : Hid (OldB w V0 W3) := (show OldB w V0 W3 from HoE.out.round Hlo.out HD2.out hk3)
            have HD3 : Hid (OldD w V0 D3) := (show OldD w V0 D3 from HD2.out.grow hg3 HoE.out.size)
            have Hnq3 : Hid (¬ D3 qb) := (show ¬ D3 qb from fun e => by
              rcases hg3 _ e with e | e
              · exact Hnq2.out e
              · have := HsE.out.1; omega)
            have Hb3 : Hid (W3.heap[qb]? = some (.cells #[.int .u64 x.1.yes, .int .u64 x.1.no, .slice x.2.1 x.1.to.length x.2.2] 75 (0, 0))) := Lib.hid (hk3.same _ _ HbE.out (fun e => by
              rcases e with e | e
              · have := HsE.out.2; omega
              · exact Hnq2.out e))
            clear hk3 hj3 hg3
            gi_wp2
            go_roundw
            case rel => exact ⟨j + 1, D3, by go_num, hjt, Hj3, Ho3, HD3, Hnq3, Hb3⟩
            case measure => simp [intOf]; omega
          · gi_wp2
            exact ⟨rfl, .inr ⟨ch, rfl, hp⟩⟩
        · obtain rfl : j = ys.length := by omega
          have Hj3 : Hid (J (List.range ((i + 1) * ys.length)) D2 wr) := (show J (List.range ((i + 1) * ys.length)) D2 wr by rw [Nat.succ_mul]; exact Hj2.out)
          have Hw3 : Hid (W.heap.size ≤ wr.heap.size) := (show W.heap.size ≤ wr.heap.size by have := (Array.getElem?_eq_some_iff.1 Hb2.out).1; have := Hqs.out.2; omega)
          clear Hj2 Hb2 Hnq2
          gi_wp2
          go_roundw
          case rel => exact ⟨i + 1, D2, by go_num, hlt, Hj3, Ho2, HD2, Hw3⟩
          case measure => simp [intOf]; omega
    · obtain rfl : i = xs.length := by omega
      gi_wp2
      go_end0
      exact .inl ⟨_, rfl, D, Hj.out⟩
end Go.Proofs.YtkgfdgfhpdhhaaaGreat
namespace Go.Proofs.YtkgfdgfhpdhhaaaGreat
open Go.ChangeShapes Go.WideShapes Go.RowKit Go.Shelf
attribute [local go_sem] Oper.semAt_some
def pairI (x y : Mvi) : Option Mvi := if bits .and .u64 (bits .or .u64 x.yes y.yes) (bits .or .u64 x.no y.no) = 0 then some ⟨bits .or .u64 x.yes y.yes, bits .or .u64 x.no y.no, joinI x.to y.to⟩ else none
def atP (a b : List Mvi) (p : Nat) : Option Mvi := pairI (a.getD (p / b.length) m0) (b.getD (p % b.length) m0)
def prodN (a b : List Mvi) (k : Nat) : List Mvi := (List.range k).filterMap (atP a b)
def pairsI (a b : List Mvi) : List Mvi := prodN a b (a.length * b.length)
theorem prodN_succ (a b : List Mvi) (k : Nat) : prodN a b (k + 1) = prodN a b k ++ (atP a b k).toList := by
  unfold prodN
  rw [List.range_succ, List.filterMap_append]
  congr 1
theorem prodN_le (a b : List Mvi) {k m : Nat} (h : k ≤ m) : (prodN a b k).length ≤ (prodN a b m).length := by
  induction m with
  | zero => rw [Nat.le_zero.1 h]; exact Nat.le_refl _
  | succ m ih =>
    rcases Nat.lt_or_ge m k with h2 | h2
    · rw [show k = m + 1 by omega]; exact Nat.le_refl _
    · rw [prodN_succ, List.length_append]
      have := ih h2
      omega
theorem MOwn.typed {S : Nat → Prop} {W W' : World} {lo : Nat} {sl : Value} {ms : List Mvi} {xs : List MvS} (h : MOwn W lo sl ms xs) (hc : Chg S W W') (hn : ∀ q, sl.ownBlock = some q → ¬ S q) (hs : ∀ q, S q → ∀ cs m, W.heap[q]? ≠ some (.cells cs 3 m)) : MOwn W' lo sl ms xs :=
  ⟨ownsRow_chg h.own hc hn, h.fst, fun x hx => by obtain ⟨a, b, c⟩ := h.tos x hx; exact ⟨a, b.typed hc hs, c⟩⟩
theorem MOwn.push2 {W : World} {lo : Nat} {sl : Value} {ms : List Mvi} {xs : List MvS} (h : MOwn W lo sl ms xs) (hlo : lo ≤ W.heap.size) (hn : ms.length ≤ 1000000) (x : MvS) (hx : x.1.to.length ≤ 2000000 ∧ TRow W 0 x.2.1 x.1.to ∧ (x.2.1 = none → x.2.2 = 0)) :
    ∃ sl' W', (Builtin.append_ #[67, 67] 67 #[sl, .slice (some ⟨W.heap.size, 0, none⟩) 1 1]).run Tryz.prog (W.alloc (.cells (cellsM x).toArray 75)) = .ok sl' W' ∧ MOwn W' lo sl' (ms ++ [x.1]) (xs ++ [x]) ∧ Chg (fun q => sl.ownBlock = some q) W W' ∧ (∃ q c, sl' = .slice (some ⟨q, 0, none⟩) (ms.length + 1) c ∧ q < W'.heap.size ∧ (sl.ownBlock = some q ∨ W.heap.size ≤ q)) := by
  have hA : Chg Nob W (W.alloc (.cells (cellsM x).toArray 75)) := (Chg.refl _ _).alloc _
  obtain ⟨g', cap, W', hrun, hrow, hgr, hlies, hg'⟩ := append75 (ownsRow_chg h.own hA (fun _ _ e => e)) (by rw [World.size_alloc]; omega) (by omega) (by rfl) (cellsM_one x) (heap_alloc_new W (.cells (cellsM x).toArray 75))
  have hc : Chg (fun q => sl.ownBlock = some q) W W' := (hA.any (S := fun q => sl.ownBlock = some q)).trans1 ((Chg.refl _ _).grown hgr (fun q hq _ => hq))
  refine ⟨_, W', hrun, ⟨?_, by rw [List.map_append, h.fst]; rfl, fun y hy => ?_⟩, hc, g', cap, rfl, hg', hlies.imp id (fun e => by rw [World.size_alloc] at e; omega)⟩
  · rw [List.length_append, List.flatMap_append, List.flatMap_cons, List.flatMap_nil, List.append_nil]
    exact hrow
  · have hty : ∀ q, sl.ownBlock = some q → ∀ cs m, W.heap[q]? ≠ some (.cells cs 3 m) := fun q hq cs m hb => by
      obtain ⟨cs', m', hb2⟩ := ownsRow_block h.own q hq
      rw [hb] at hb2
      simp at hb2
    rcases List.mem_append.1 hy with hy | hy
    · obtain ⟨a, b, c⟩ := h.tos y hy
      exact ⟨a, b.typed hc hty, c⟩
    · obtain rfl := List.mem_singleton.1 hy
      exact ⟨hx.1, hx.2.1.typed hc hty, hx.2.2⟩
theorem TRow.kept {S : Nat → Prop} {W W' : World} {lo : Nat} {ao : Option Addr} {l : List Int} (h : TRow W lo ao l) (hc : Chg S W W') (hs : l ≠ [] → ∀ a, ao = some a → ¬ S a.block) : TRow W' lo ao l := by
  refine ⟨fun j x hj => ?_, fun hne => ?_⟩
  · have hne : l ≠ [] := fun e => by rw [e] at hj; simp at hj
    obtain ⟨a, e, c⟩ := h.1 j x hj
    refine ⟨a, e, hc.cell' c ?_⟩
    have := hs hne a e
    unfold Addr.add
    split <;> exact this
  · obtain ⟨g, cs, m, e, hlo, hb⟩ := h.2 hne
    exact ⟨g, cs, m, e, hlo, hc.at hb (hs hne _ e)⟩
theorem MOwn.low {W : World} {lo lo' : Nat} {sl : Value} {ms : List Mvi} {xs : List MvS} (h : MOwn W lo sl ms xs) (hl : lo' ≤ lo) : MOwn W lo' sl ms xs :=
  ⟨⟨h.own.1, h.own.2.imp id (fun ⟨g, cap, cur, e, hb, rest⟩ => ⟨g, cap, cur, e, Nat.le_trans hl hb, rest⟩)⟩, h.fst, h.tos⟩
structure DOwn (D : Nat → Prop) (W : World) (lo : Nat) (ob : Nat) (sl : Value) (ms : List Mvi) (xs : List MvS) : Prop where
  lt : ∀ q, D q → q < W.heap.size
  box : D ob ∧ W.heap[ob]? = some (.cells #[sl] 67 (0, 0))
  own : MOwn W lo sl ms xs
  ownD : ∀ q, sl.ownBlock = some q → D q
  tosD : ∀ x ∈ xs, x.1.to ≠ [] → ∀ a, x.2.1 = some a → D a.block
theorem DOwn.keep {D S : Nat → Prop} {W W' : World} {lo ob : Nat} {sl : Value} {ms : List Mvi} {xs : List MvS} (h : DOwn D W lo ob sl ms xs) (hc : Chg S W W') (hs : ∀ q, S q → ¬ D q) : DOwn D W' lo ob sl ms xs := by
  have hD : ∀ q, D q → ¬ S q := fun q hq e => hs q e hq
  exact ⟨fun q hq => Nat.lt_of_lt_of_le (h.lt q hq) hc.size, ⟨h.box.1, hc.at h.box.2 (hD _ h.box.1)⟩, ⟨ownsRow_chg h.own.own hc (fun q hq => hD q (h.ownD q hq)), h.own.fst, fun x hx => by
    obtain ⟨a, b, c⟩ := h.own.tos x hx
    exact ⟨a, b.kept hc (fun hne ad e => hD _ (h.tosD x hx hne ad e)), c⟩⟩, h.ownD, h.tosD⟩
theorem DOwn.push {D : Nat → Prop} {W V : World} {lo ob : Nat} {sl : Value} {ms : List Mvi} {xs : List MvS} (h : DOwn D W lo ob sl ms xs) (hlo : lo ≤ W.heap.size) (hn : ms.length ≤ 1000000) (hWV : Chg Nob W V) (x : MvS) (hx : x.1.to.length ≤ 2000000 ∧ TRow V W.heap.size x.2.1 x.1.to ∧ (x.2.1 = none → x.2.2 = 0)) :
    ∃ sl' V1, (Builtin.append_ #[67, 67] 67 #[sl, .slice (some ⟨V.heap.size, 0, none⟩) 1 1]).run Tryz.prog (V.alloc (.cells (cellsM x).toArray 75)) = .ok sl' V1 ∧ V1.heap[ob]? = some (.cells #[sl] 67 (0, 0)) ∧ Chg (fun q => sl.ownBlock = some q) V V1 ∧ (∃ q c, sl' = .slice (some ⟨q, 0, none⟩) (ms.length + 1) c) ∧
      ∃ D', DOwn D' (V1.setCell ⟨ob, 0, none⟩ sl') lo ob sl' (ms ++ [x.1]) (xs ++ [x]) ∧ Chg D W (V1.setCell ⟨ob, 0, none⟩ sl') ∧ Grows D D' W.heap.size := by
  have hV := h.keep hWV (fun _ e => e.elim)
  have hob := hV.box.2
  have hn67 : ∀ q cs t m, V.heap[q]? = some (.cells cs t m) → t ≠ 67 → q ≠ ob := by
    rintro q cs t m e ht rfl
    rw [hob] at e
    simp at e
    exact ht e.2.1.symm
  have hw := hWV.size
  obtain ⟨sl', V1, hrun, hown, hc, q, c, rfl, hq, hl⟩ := hV.own.push2 (by omega) hn x ⟨hx.1, hx.2.1.low (Nat.zero_le _), hx.2.2⟩
  have hnob : ¬ sl.ownBlock = some ob := fun e => by
    obtain ⟨cs, m, e2⟩ := ownsRow_block hV.own.own ob e
    exact hn67 ob cs 75 m e2 (by decide) rfl
  have hob1 := hc.at hob hnob
  obtain ⟨sl', hsl⟩ : ∃ sl', sl' = Value.slice (some ⟨q, 0, none⟩) (ms.length + 1) c := ⟨_, rfl⟩
  rw [← hsl] at hrun hown
  have hsb : sl'.ownBlock = some q := by rw [hsl]; rfl
  have hset : Chg (At1 ob) V1 (V1.setCell ⟨ob, 0, none⟩ sl') := (Chg.refl (At1 ob) V1).setCell (p := ⟨ob, 0, none⟩) (fun _ => rfl) _
  have hall : Chg (fun k => k = ob ∨ sl.ownBlock = some k) V (V1.setCell ⟨ob, 0, none⟩ sl') := (hc.mono (fun _ _ e => .inr e)).setCell (fun _ => .inl rfl) _
  refine ⟨sl', V1, by rw [hsl]; rw [← hsl]; exact hrun, hob1, hc, ⟨q, c, hsl⟩, fun k => D k ∨ k = q ∨ (x.1.to ≠ [] ∧ ∃ a, x.2.1 = some a ∧ a.block = k), ⟨?_, ⟨.inl h.box.1, block_one_set hob1⟩, ?_, ?_, ?_⟩, ?_, ?_⟩
  · rintro k (hk | rfl | ⟨hne, a, ha, rfl⟩)
    · exact Nat.lt_of_lt_of_le (hV.lt k hk) hall.size
    · rw [World.size_setCell]; exact hq
    · obtain ⟨g, cs, m, e, _, hb⟩ := hx.2.1.2 hne
      rw [ha] at e
      cases e
      exact Nat.lt_of_lt_of_le (Array.getElem?_eq_some_iff.1 hb).1 hall.size
  · refine hown.typed hset (fun k hk e => ?_) (fun k e cs m hb => ?_)
    · have e : k = ob := e
      subst e
      obtain ⟨cs, m, e2⟩ := ownsRow_block hown.own k hk
      rw [hob1] at e2
      simp at e2
    · have e : k = ob := e
      subst e
      rw [hob1] at hb
      simp at hb
  · intro k hk
    rw [hsb] at hk
    cases hk
    exact .inr (.inl rfl)
  · intro y hy hne a ha
    rcases List.mem_append.1 hy with hy | hy
    · exact .inl (h.tosD y hy hne a ha)
    · obtain rfl := List.mem_singleton.1 hy
      exact .inr (.inr ⟨hne, a, ha, rfl⟩)
  · refine (hWV.any (S := D)).trans1 (hall.mono (fun k _ e => ?_))
    rcases e with rfl | e
    · exact h.box.1
    · exact h.ownD k e
  · rintro k (hk | rfl | ⟨hne, a, ha, rfl⟩)
    · exact .inl hk
    · rcases hl with hl | hl
      · exact .inl (h.ownD _ hl)
      · exact .inr (by omega)
    · obtain ⟨g, cs, m, e, hlo, _⟩ := hx.2.1.2 hne
      rw [ha] at e
      cases e
      exact .inr hlo
def BothPost (a b : List Mvi) (w : World) (e : Ending) (w' : World) : Prop := Chg Nob w w' ∧ ((4096 < (pairsI a b).length ∧ e = .panicked manyE) ∨ ((pairsI a b).length ≤ 4096 ∧ ∃ sl xs', e = .returned sl ∧ MOwn w' w.heap.size sl (leastI (pairsI a b) (pairsI a b).length) xs'))
theorem getD_map1 {xs : List MvS} {a : List Mvi} (h : xs.map (·.1) = a) {i : Nat} (hi : i < xs.length) : ∃ x, x ∈ xs ∧ xs[i]? = some x ∧ xs.getD i mS0 = x ∧ a.getD i m0 = x.1 := by
  refine ⟨xs[i], List.getElem_mem hi, List.getElem?_eq_getElem hi, by rw [List.getD_eq_getElem?_getD, List.getElem?_eq_getElem hi]; rfl, ?_⟩
  rw [← h, List.getD_eq_getElem?_getD, List.getElem?_map, List.getElem?_eq_getElem hi]; rfl
end Go.Proofs.YtkgfdgfhpdhhaaaGreat
namespace Go.Proofs.YtkgfdgfhpdhhaaaGreat
open Go.ChangeShapes Go.WideShapes Go.RowKit Go.Shelf
attribute [local go_sem] Oper.semAt_some
theorem cell_oneM {w : World} {b : Nat} {x : Value} {t : TypeId} (h : w.heap[b]? = some (.cells #[x] t (0, 0))) : w.cell? ⟨b, 0, none⟩ = some x ∧ w.frozen? ⟨b, 0, none⟩ = false := ⟨cell_row h 0 rfl, by simp [World.frozen?, h]⟩
theorem wp_append_runM {P : Program} {w : World} {o : Oper} {a : Act} {K : Act → World → Prop} {Q : Exit → Act → World → Prop} (sl x : Operand) (t u : TypeId)
    (ho : o.op = .call { callee := .builtin .append, args := #[sl, x], argTypes := #[t, u] }) (v xv : Value) (hs : a.eval sl = v) (hx : a.eval x = xv) (v' : Value) (w' : World)
    (hr : (Builtin.append_ #[t, u] o.type #[v, xv]).run P w = .ok v' w') (h : K (a.put o.dst v') w') : o.wp P a w K Q := by
  unfold Oper.wp execOp
  simp only [ho, resolve, invoke, builtin, Sem.run_bind, Sem.run_pure, Result.andThen_ok, List.map_toArray, List.map_cons, List.map_nil, hs, hx, hr]
  exact h
def BIv (a b : List Mvi) (w : World) (ob : Nat) (pre : List Nat) (D : Nat → Prop) (W : World) : Prop := ∃ sl xs', DOwn D W ob ob sl (prodN a b pre.length) xs' ∧ (prodN a b pre.length).length ≤ 4096 ∧ Chg Nob w W ∧ ∀ q, D q → w.heap.size ≤ q
def BIp (a b : List Mvi) (w : World) (ch : List PanicEntry) (W : World) : Prop := ch = manyE ∧ 4096 < (pairsI a b).length ∧ Chg Nob w W
set_option maxRecDepth 100000 in
set_option maxHeartbeats 8000000 in
theorem mboth_any {w : World} {mk : Value} {ax ay : Option Addr} {cx cy : Nat} {xs ys : List MvS} {a b : List Mvi} (hax : xs.map (·.1) = a) (hay : ys.map (·.1) = b) (hla : a.length ≤ 10000) (hlb : b.length ≤ 10000)
    (hjn : ∀ x ∈ xs, ∀ y ∈ ys, x.1.to.length + y.1.to.length ≤ 10000) (hx : MIn w ax xs) (hy : MIn w ay ys) : Calls Tryz.prog 117 #[mk, .slice ax a.length cx, .slice ay b.length cy] w (BothPost a b w) := by
  have hxl : xs.length = a.length := by rw [← hax, List.length_map]
  have hyl : ys.length = b.length := by rw [← hay, List.length_map]
  obtain ⟨ob, hob⟩ : ∃ ob, ob = w.heap.size := ⟨_, rfl⟩
  obtain ⟨X, hX, hcX, hbX, hsX⟩ := box_cells w #[.slice none 0 0] 67
  obtain ⟨Y, hY, hcY, hbY, hsY⟩ := box_cells X #[.slice ax a.length cx] 67
  obtain ⟨Z, hZ, hcZ, hbZ, hsZ⟩ := box_cells Y #[.slice ay b.length cy] 67
  rw [hsX] at hbY hsY
  rw [hsY] at hbZ hsZ
  rw [← hob] at hbX hsX hbY hsY hbZ hsZ
  have hcXZ : Chg Nob X Z := hcY.trans1 hcZ
  have hcwZ : Chg Nob w Z := hcX.trans1 hcXZ
  have hpa := pairsM_any (.slice ax a.length cx) (.slice ay b.length cy) ⟨_, _, _, rfl⟩ ⟨_, _, _, rfl⟩ X
  rw [hsX, ← hY, ← hZ] at hpa
  have hlow : ∀ {ao : Option Addr} {zs : List MvS}, MIn w ao zs → zs ≠ [] → ∀ ad, ao = some ad → ¬ (ad.block = ob) := by
    intro ao zs h hne ad e e2
    obtain ⟨z, zs', rfl⟩ := List.exists_cons_of_ne_nil hne
    obtain ⟨b0, o0, e3, c0, _⟩ := h 0 z rfl
    rw [e] at e3
    cases e3
    have h9 : b0 < w.heap.size := World.block_lt_of_cell? w _ c0
    have e2 : b0 = ob := e2
    omega
  have hit := pairsM_iter 3 (by omega) (fun q => q = ob) (ob + 1) (ob + 1 + 1) (xs := xs) (ys := ys) (cx := cx) (cy := cy) Z (by rw [hxl]; exact hcZ.at hbY (fun e => e)) (by rw [hyl]; exact hbZ) (by omega) (by omega) (hx.nob hcwZ).cl (hy.nob hcwZ).cl (hlow hx) (hlow hy) (by omega) (by omega)
  have hZ0 : DOwn (fun q => q = ob) Z ob ob (.slice none 0 0) (prodN a b 0) [] := ⟨fun q e => by have e : q = ob := e; omega, ⟨rfl, hcXZ.at hbX (fun e => e)⟩, ⟨World.ownsRow_nil _ _ _ _, rfl, fun x h => by cases h⟩, fun q h => by simp [Value.ownBlock] at h, fun x h => by cases h⟩
  have HcwZ := Lib.hid hcwZ
  have Hx := Lib.hid hx
  have Hy := Lib.hid hy
  have Hax := Lib.hid hax
  have Hay := Lib.hid hay
  have Hjn := Lib.hid hjn
  have Hob := Lib.hid hob
  have HsZ := Lib.hid hsZ
  have Hit := Lib.hid hit
  have HZ0 := Lib.hid hZ0
  have Hxl := Lib.hid hxl
  have Hyl := Lib.hid hyl
  clear hY hZ hcY hcZ hcX hbX hbY hbZ hsX hsY hsZ hcXZ hcwZ hlow hit hZ0 hx hy hax hay hjn hob hxl hyl
  refine calls_of_wpAt (n := 3) Tryz.func117 rfl ?_
  simp only [Tryz.ntmps117, List.size_toArray, List.length_cons, List.length_nil, Nat.reduceAdd, Nat.reduceSub, Array.replicate_succ, Array.replicate_zero, List.push_toArray, List.append_toArray, List.nil_append, List.cons_append]
  refine wpAt_seq (wpAt_of_wp ?_)
  go_wp2_with fail
  refine wpAt_seq (wpAt_of_wp ?_)
  go_wp2_with fail
  rw [← hX, ← Hob.out]
  clear hX
  refine wpAt_seq (wpAt_seq (wpAt_of_wp ?_))
  go_wp2_with fail
  (with_reducible refine hpa.mono ?_)
  rintro e Z ⟨rfl, rfl⟩
  clear hpa
  go_wp2_with fail
  refine wpAt_block (range_iterD Tryz.func117 (n := 3) (gf := 186) rfl (enters_of Tryz.func186 (by kernel_rfl) rfl) Hit.out (fun _ => rfl)
    (BIv a b w ob) (BIp a b w) ?_ ?_ ⟨_, _, HZ0.out, Nat.zero_le _, HcwZ.out, fun q e => by have e : q = ob := e; have := Hob.out; omega⟩ ?_ ?_ ?_)
  · rintro pre D A ⟨sl, xs', h, _⟩ k hk
    exact h.lt k hk
  · rintro pre D A B ⟨sl, xs', h, h4, hc, hlo⟩ hs
    exact ⟨sl, xs', h.keep hs (fun q e => e.2), h4, hc.trans hs (fun i hi e => by have := e.1; have := HsZ.out; have := Hob.out; omega), hlo⟩
  · rintro l pre p D W ⟨sl, xs', hD, h4, hc, hDlo⟩ hpre hsz hn0 hn1
    obtain ⟨hpl, hpN⟩ := range_pre_inv hpre
    rw [← hpl] at hD h4
    have hys0 : 0 < ys.length := by
      rcases Nat.eq_zero_or_pos ys.length with e | e
      · rw [e, Nat.mul_zero] at hpN; omega
      · exact e
    have hpx : p / ys.length < xs.length := by rw [Nat.div_lt_iff_lt_mul hys0]; exact hpN
    have hpy : p % ys.length < ys.length := Nat.mod_lt _ hys0
    obtain ⟨x, hxm, hxi, hxd, hxa⟩ := getD_map1 Hax.out hpx
    obtain ⟨y, hym, hyi, hyd, hyb⟩ := getD_map1 Hay.out hpy
    have henc : encM xs ys p = #[.agg #[.int .u64 x.1.yes, .int .u64 x.1.no, .slice x.2.1 x.1.to.length x.2.2], .agg #[.int .u64 y.1.yes, .int .u64 y.1.no, .slice y.2.1 y.1.to.length y.2.2]] := by
      unfold encM; rw [hxd, hyd]; rfl
    have hatp : atP a b p = pairI x.1 y.1 := by unfold atP; rw [← Hyl.out, hxa, hyb]
    have hp1 : (pre ++ [p]).length = p + 1 := by rw [List.length_append, List.length_singleton, hpl]
    have hNle : (prodN a b (p + 1)).length ≤ (pairsI a b).length := prodN_le a b (by rw [← Hxl.out, ← Hyl.out]; omega)
    rw [prodN_succ, hatp] at hNle
    obtain ⟨hxt, hxn⟩ : TRow w 0 x.2.1 x.1.to ∧ (x.2.1 = none → x.2.2 = 0) := by
      obtain ⟨b0, o0, e, c0, c1, c2, hl, ht, hn⟩ := Hx.out _ x hxi
      exact ⟨ht, hn⟩
    obtain ⟨hyt, hyn⟩ : TRow w 0 y.2.1 y.1.to ∧ (y.2.1 = none → y.2.2 = 0) := by
      obtain ⟨b0, o0, e, c0, c1, c2, hl, ht, hn⟩ := Hy.out _ y hyi
      exact ⟨ht, hn⟩
    have hjl := Hjn.out x hxm y hym
    rw [henc]
    simp only [zip2, List.setIfInBounds_toArray, List.set_cons_succ, List.set_cons_zero]
    obtain ⟨B1, hB1, hcB1, hbB1, hsB1⟩ := box_cells W #[.int .u64 x.1.yes, .int .u64 x.1.no, .slice x.2.1 x.1.to.length x.2.2] 75
    obtain ⟨B2, hB2, hcB2, hbB2, hsB2⟩ := box_cells B1 #[.int .u64 y.1.yes, .int .u64 y.1.no, .slice y.2.1 y.1.to.length y.2.2] 75
    have hWs := hD.box.2
    have HD := Lib.hid hD
    have Hc := Lib.hid hc
    have H4 := Lib.hid h4
    have Hatp := Lib.hid hatp
    have HNle := Lib.hid hNle
    have Hp1 := Lib.hid hp1
    have Hxt := Lib.hid hxt
    have Hyt := Lib.hid hyt
    have Hxn := Lib.hid hxn
    have Hyn := Lib.hid hyn
    have Hjl := Lib.hid hjl
    have Hsz := Lib.hid hsz
    have HDlo := Lib.hid hDlo
    have Hn1 := Lib.hid hn1
    have HcB : Hid (Chg Nob W B2) := (show Chg Nob W B2 from hcB1.trans1 hcB2)
    have HbB1 : Hid (B2.heap[W.heap.size]? = some (.cells #[.int .u64 x.1.yes, .int .u64 x.1.no, .slice x.2.1 x.1.to.length x.2.2] 75 (0, 0))) := Lib.hid (hcB2.at hbB1 (fun e => e))
    have HbB2 : Hid (B2.heap[W.heap.size + 1]? = some (.cells #[.int .u64 y.1.yes, .int .u64 y.1.no, .slice y.2.1 y.1.to.length y.2.2] 75 (0, 0))) := Lib.hid (by rw [hsB1] at hbB2; exact hbB2)
    clear hD hDlo hc h4 hpre hpl hpN hpx hpy hxm hym hxi hyi hxd hyd hxa hyb henc hatp hp1 hNle hxt hyt hxn hyn hjl hsz hn0 hn1 hbB1 hbB2 hsB2 hcB1 hcB2 hWs hys0
    gi_wp2
    rw [← hB1, ← hB2]
    clear hB1 hB2
    refine ⟨HcB.out, fun w₂ hc2 => ?_⟩
    have HD2 : Hid (DOwn D w₂ ob ob sl (prodN a b p) xs') := (show DOwn D w₂ ob ob sl (prodN a b p) xs' from (HD.out.keep HcB.out (fun _ e => e.elim)).keep hc2 (fun q e => by have e : q = Z.heap.size + 1 := e; subst e; exact Hn1.out))
    have HbX : Hid (w₂.heap[W.heap.size]? = some (.cells #[.int .u64 x.1.yes, .int .u64 x.1.no, .slice x.2.1 x.1.to.length x.2.2] 75 (0, 0))) := Lib.hid (hc2.at HbB1.out (fun e => by have e : W.heap.size = Z.heap.size + 1 := e; have := Hsz.out; omega))
    have HbY : Hid (w₂.heap[W.heap.size + 1]? = some (.cells #[.int .u64 y.1.yes, .int .u64 y.1.no, .slice y.2.1 y.1.to.length y.2.2] 75 (0, 0))) := Lib.hid (hc2.at HbB2.out (fun e => by have e : W.heap.size + 1 = Z.heap.size + 1 := e; have := Hsz.out; omega))
    have Hcw : Hid (Chg Nob w w₂) := (show Chg Nob w w₂ from (Hc.out.trans1 HcB.out).trans hc2 (fun i hi e => by have e : i = Z.heap.size + 1 := e; have := HsZ.out; have := Hob.out; omega))
    have HDx : Hid (∀ q, D q → q < W.heap.size) := (show ∀ q, D q → q < W.heap.size from HD.out.lt)
    have Hgx : Hid (W.heap.size < W.heap.size + 1 ∧ W.heap.size + 1 < w₂.heap.size) := (show _ ∧ _ from ⟨by omega, (Array.getElem?_eq_some_iff.1 HbY.out).1⟩)
    generalize hxb : W.heap.size = xb at *
    generalize hyb : xb + 1 = yb at *
    clear hc2 HcB HbB1 HbB2 HD Hc hxb hyb Hsz Hn1
    obtain ⟨yy, hyy⟩ : ∃ yy, yy = bits .or .u64 x.1.yes y.1.yes := ⟨_, rfl⟩
    obtain ⟨nn, hnn⟩ : ∃ nn, nn = bits .or .u64 x.1.no y.1.no := ⟨_, rfl⟩
    obtain ⟨E, hE, hcE, hbE, hsE⟩ := box_cells w₂ #[.int .u64 yy, .int .u64 nn] 72
    obtain ⟨x0, x1, x2, _⟩ := cells_three (hcE.at HbX.out (fun e => e))
    obtain ⟨y0, y1, y2, _⟩ := cells_three (hcE.at HbY.out (fun e => e))
    obtain ⟨g0, g1, _⟩ := cell_two hbE
    have o0 := cell_row (hcE.at HD2.out.box.2 (fun e => e)) 0 (v := sl) rfl
    obtain ⟨p0, p1, p2, _⟩ := cells_three HbX.out
    obtain ⟨r0, r1, r2, _⟩ := cells_three HbY.out
    have HcE : Hid (Chg Nob w₂ E) := Lib.hid hcE
    have HSE : Hid (∀ V, Chg Nob E V → V.cell? ⟨ob, 0, none⟩ = some sl ∧ V.cell? ⟨w₂.heap.size, 0, none⟩ = some (.int .u64 yy) ∧ V.cell? ⟨w₂.heap.size, 1, none⟩ = some (.int .u64 nn) ∧ V.cell? ⟨xb, 2, none⟩ = some (.slice x.2.1 x.1.to.length x.2.2) ∧ V.cell? ⟨yb, 2, none⟩ = some (.slice y.2.1 y.1.to.length y.2.2)) := (show ∀ V, Chg Nob E V → _ ∧ _ ∧ _ ∧ _ ∧ _ from fun V hV => ⟨hV.cell' o0 (fun e => e), hV.cell' g0 (fun e => e), hV.cell' g1 (fun e => e), hV.cell' x2 (fun e => e), hV.cell' y2 (fun e => e)⟩)
    have Hjc : Hid (∀ V, Chg Nob E V → Calls Tryz.prog 61 #[.slice x.2.1 x.1.to.length x.2.2, .slice y.2.1 y.1.to.length y.2.2] V fun e w' => Chg Nob V w' ∧ ∃ at' ct, e = .returned (.slice at' (joinI x.1.to y.1.to).length ct) ∧ TRow w' V.heap.size at' (joinI x.1.to y.1.to) ∧ (at' = none → ct = 0)) := (show ∀ V, Chg Nob E V → Calls Tryz.prog 61 #[.slice x.2.1 x.1.to.length x.2.2, .slice y.2.1 y.1.to.length y.2.2] V fun e w' => Chg Nob V w' ∧ ∃ at' ct, e = .returned (.slice at' (joinI x.1.to y.1.to).length ct) ∧ TRow w' V.heap.size at' (joinI x.1.to y.1.to) ∧ (at' = none → ct = 0) from fun V hV => join_any Hjl.out (Hxt.out.nob ((Hcw.out.trans1 HcE.out).trans1 hV)).1 (Hyt.out.nob ((Hcw.out.trans1 HcE.out).trans1 hV)).1 Hxn.out Hyn.out)
    have Hpi : Hid (pairI x.1 y.1 = if bits .and .u64 yy nn = 0 then some ⟨yy, nn, joinI x.1.to y.1.to⟩ else none) := (show pairI x.1 y.1 = _ by unfold pairI; rw [hyy, hnn])
    have o2 := cell_row HD2.out.box.2 0 (v := sl) rfl
    obtain ⟨ap, cp, hsl⟩ := ownsRow_shape HD2.out.own.own
    subst hsl
    clear hcE hbE hsE x0 x1 x2 y0 y1 y2
    rw [hE] at g0 g1 o0
    by_cases hcm : bits .and .u64 yy nn = 0
    · have Hat : Hid (pairI x.1 y.1 = some ⟨yy, nn, joinI x.1.to y.1.to⟩) := (show _ = _ by rw [Hpi.out, if_pos hcm])
      rw [hyy, hnn] at hcm g0 g1 o0
      gi_wp2
      rw [← hyy, ← hnn] at g0 g1 o0 hcm ⊢
      rw [← hE] at g0 g1 o0 ⊢
      clear hE hyy hnn p0 p1 p2 r0 r1 r2 o2 hcm HbX HbY Hpi
      generalize hgb : w₂.heap.size = gb at *
      have Hgb := Lib.hid hgb
      clear hgb
      obtain ⟨_, _, _, x2, y2⟩ := HSE.out E (Chg.refl _ _)
      refine wp_region_free_veil (fun i => i != 10) (fun w' => w'.cell? ⟨ob, 0, none⟩ = some (.slice ap (prodN a b p).length cp) ∧ w'.cell? ⟨gb, 0, none⟩ = some (.int .u64 yy) ∧ w'.cell? ⟨gb, 1, none⟩ = some (.int .u64 nn) ∧ w'.cell? ⟨xb, 2, none⟩ = some (.slice x.2.1 x.1.to.length x.2.2) ∧ w'.cell? ⟨yb, 2, none⟩ = some (.slice y.2.1 y.1.to.length y.2.2)) (by kernel_rfl) (by kernel_rfl) ⟨o0, g0, g1, x2, y2⟩ (fun Q2 hQ2 hpan hHeld => ?_)
      refine wpAnyG_take (i := 0) (v := ?_) rfl (by kernel_rfl) (fun c _ w h => hpan c _ _ w h) (Or.inl ⟨by rfl, ?_⟩) hHeld ?_
      rotate_left
      · intro w hSw; obtain ⟨o0, g0, g1, x2, y2⟩ := hSw; go_simp; (try (with_reducible rfl))
      simp only [Act.put, List.setIfInBounds_toArray]
      refine wpAnyG_take (i := 1) (v := ?_) rfl (by kernel_rfl) (fun c _ w h => hpan c _ _ w h) (Or.inl ⟨by rfl, ?_⟩) hHeld ?_
      rotate_left
      · intro w hSw; obtain ⟨o0, g0, g1, x2, y2⟩ := hSw; go_simp; (try (with_reducible rfl))
      try simp only [Act.put]
      refine wpAnyG_take (i := 2) (v := ?_) rfl (by kernel_rfl) (fun c _ w h => hpan c _ _ w h) (Or.inl ⟨by rfl, ?_⟩) hHeld ?_
      rotate_left
      · intro w hSw; obtain ⟨o0, g0, g1, x2, y2⟩ := hSw; go_simp; (try (with_reducible rfl))
      try simp only [Act.put]
      refine wpAnyG_take (i := 3) (v := ?_) rfl (by kernel_rfl) (fun c _ w h => hpan c _ _ w h) (Or.inl ⟨by rfl, ?_⟩) hHeld ?_
      rotate_left
      · intro w hSw; obtain ⟨o0, g0, g1, x2, y2⟩ := hSw; go_simp; (try (with_reducible rfl))
      try simp only [Act.put]
      refine wpAnyG_take (i := 4) (v := ?_) rfl (by kernel_rfl) (fun c _ w h => hpan c _ _ w h) (Or.inl ⟨by kernel_rfl, ?_⟩) hHeld ?_
      rotate_left
      · intro w hSw; obtain ⟨o0, g0, g1, x2, y2⟩ := hSw; go_simp; (try (with_reducible rfl))
      try simp only [Act.put]
      refine wpAnyG_take (i := 5) (v := ?_) rfl (by kernel_rfl) (fun c _ w h => hpan c _ _ w h) (Or.inl ⟨by kernel_rfl, ?_⟩) hHeld ?_
      rotate_left
      · intro w hSw; obtain ⟨o0, g0, g1, x2, y2⟩ := hSw; go_simp; (try (with_reducible rfl))
      try simp only [Act.put]
      refine wpAnyG_ready (rs := [6]) (by kernel_rfl) (by simp) ?_
      refine AllReadyG.cons rfl (fun K hK => ?_) AllReadyG.nil
      rw [if_pos (by kernel_rfl)]
      go_simp
      (with_reducible refine (Hjc.out _ ((Chg.refl Nob E).drew)).mono ?_)
      rintro e v1 ⟨hc5, at', ct, rfl, hT, hn⟩
      have Hv1 : Hid (Chg Nob E v1) := (show Chg Nob E v1 from ((Chg.refl Nob E).drew).trans1 hc5)
      have HT : Hid (TRow v1 w₂.heap.size at' (joinI x.1.to y.1.to)) := (show TRow v1 w₂.heap.size at' (joinI x.1.to y.1.to) from hT.low HcE.out.size)
      have Hnt := Lib.hid hn
      clear hc5 hT hn
      refine hK.out _ _ (fun _ => HSE.out _ Hv1.out) ?_
      clear hK K
      try simp only [Act.put]
      refine wpAnyG_take (i := 7) (v := ?_) rfl (by kernel_rfl) (fun c _ w h => hpan c _ _ w h) (Or.inl ⟨by kernel_rfl, ?_⟩) (HSE.out _ Hv1.out) ?_
      rotate_left
      · intro w hSw; obtain ⟨o0, g0, g1, x2, y2⟩ := hSw; go_simp; (try (with_reducible rfl))
      try simp only [Act.put]
      refine wpAnyG_ready (rs := [8]) (by kernel_rfl) (by simp) ?_
      refine AllReadyG.cons rfl (fun K hK => ?_) AllReadyG.nil
      rw [if_pos (by kernel_rfl)]
      go_simp
      refine hK.out _ _ (fun _ => HSE.out _ (Hv1.out.alloc _)) ?_
      clear hK K
      try simp only [Act.put]
      refine wpAnyG_ready (rs := [9]) (by kernel_rfl) (by simp) ?_
      refine AllReadyG.cons rfl (fun K hK => ?_) AllReadyG.nil
      rw [if_pos (by kernel_rfl)]
      have hpush := HD2.out.push (W := w₂) (V := v1) (by have := Hcw.out.size; have := Hob.out; omega) (by have := H4.out; omega) (HcE.out.trans1 Hv1.out) ((⟨yy, nn, joinI x.1.to y.1.to⟩ : Mvi), at', ct) ⟨by show (joinI x.1.to y.1.to).length ≤ 2000000; have := joinI_len x.1.to y.1.to; have := Hjl.out; omega, HT.out, Hnt.out⟩
      obtain ⟨sl', V1, hrun, hob1, hc1, ⟨q, c, hsl⟩, D', hDV, hcD, hgr⟩ := hpush
      subst hsl
      have Hrun := Lib.hid hrun
      have HDV := Lib.hid hDV
      have HcD := Lib.hid hcD
      have Hgr := Lib.hid hgr
      have Hob1 := Lib.hid hob1
      have hlow : ∀ k, xb ≤ k → ¬ (Value.slice ap (prodN a b p).length cp).ownBlock = some k := fun k hk e => by have := HDx.out k (HD2.out.ownD k e); omega
      have HS9 : Hid (V1.cell? ⟨ob, 0, none⟩ = some (.slice ap (prodN a b p).length cp) ∧ V1.cell? ⟨gb, 0, none⟩ = some (.int .u64 yy) ∧ V1.cell? ⟨gb, 1, none⟩ = some (.int .u64 nn) ∧ V1.cell? ⟨xb, 2, none⟩ = some (.slice x.2.1 x.1.to.length x.2.2) ∧ V1.cell? ⟨yb, 2, none⟩ = some (.slice y.2.1 y.1.to.length y.2.2)) := (show _ ∧ _ ∧ _ ∧ _ ∧ _ from by obtain ⟨_, t1, t2, t3, t4⟩ := HSE.out _ Hv1.out; have h8 := Hgx.out; exact ⟨(cell_oneM Hob1.out).1, hc1.cell' t1 (hlow _ (by show xb ≤ gb; omega)), hc1.cell' t2 (hlow _ (by show xb ≤ gb; omega)), hc1.cell' t3 (hlow _ (Nat.le_refl _)), hc1.cell' t4 (hlow _ (by show xb ≤ yb; omega))⟩)
      clear hrun hDV hcD hgr hob1 hc1 hlow
      refine wp_append_runM (.tmp 37) (.tmp 45) 67 67 rfl _ _ rfl rfl _ _ Hrun.out ?_
      refine hK.out _ _ (fun _ => HS9.out) ?_
      clear hK K
      try simp only [Act.put]
      refine wpAnyG_ready (rs := [10]) (by kernel_rfl) (by simp) ?_
      refine AllReadyG.cons rfl (fun K hK => ?_) AllReadyG.nil
      rw [if_pos (by kernel_rfl)]
      obtain ⟨o7, f7⟩ := cell_oneM Hob1.out
      go_simp
      refine hK.out _ _ (fun h => absurd h (by decide)) ?_
      clear hK K o7 f7
      try simp only [Act.put]
      refine wpAnyG_done (by kernel_rfl) (hQ2 _ _ ?_) _
      go_simp
      clear hHeld hQ2 hpan g0 g1 o0 x2 y2
      have z0 := (cell_oneM HDV.out.box.2).1
      generalize hV2 : V1.setCell ⟨ob, 0, none⟩ (.slice (some ⟨q, 0, none⟩) ((prodN a b p).length + 1) c) = V2 at *
      have H5 : Hid (prodN a b (pre ++ [p]).length = prodN a b p ++ [(⟨yy, nn, joinI x.1.to y.1.to⟩ : Mvi)]) := (show _ = _ by rw [Hp1.out, prodN_succ, Hatp.out, Hat.out]; rfl)
      have H6 : Hid ((prodN a b p).length + 1 ≤ (pairsI a b).length) := (show _ ≤ _ by have := HNle.out; rw [Hat.out, List.length_append] at this; exact this)
      have HcV : Hid (Chg Nob w V2) := (show Chg Nob w V2 from Hcw.out.trans HcD.out (fun i hi e => by have := HDlo.out i e; omega))
      by_cases hbig : 4096 < (prodN a b p).length + 1
      · have hbi : (4096 : Int) < ((prodN a b p).length : Int) + 1 := by omega
        gi_wp2
        exact ⟨rfl, KeepS.of_chg HcD.out, rfl, by have := H6.out; omega, HcV.out⟩
      · have hbi : ¬ (4096 : Int) < ((prodN a b p).length : Int) + 1 := by omega
        gi_wp2
        exact ⟨KeepS.of_chg HcD.out, D', ⟨.slice (some ⟨q, 0, none⟩) ((prodN a b p).length + 1) c, xs' ++ [((⟨yy, nn, joinI x.1.to y.1.to⟩ : Mvi), at', ct)], by rw [H5.out]; exact HDV.out, by rw [H5.out, List.length_append]; show (prodN a b p).length + 1 ≤ 4096; omega, HcV.out, fun k hk => (Hgr.out k hk).elim (fun e => HDlo.out k e) (fun e => Nat.le_trans Hcw.out.size e)⟩, Hgr.out⟩
    · have Hat : Hid (pairI x.1 y.1 = none) := (show _ = _ by rw [Hpi.out, if_neg hcm])
      have hcmb : (bits .and .u64 yy nn == 0) = false := beq_eq_false_iff_ne.2 hcm
      have hbi : ¬ (4096 : Int) < ((prodN a b p).length : Int) := by have := H4.out; omega
      have hbd : decide ((4096 : Int) < ((prodN a b p).length : Int)) = false := decide_eq_false hbi
      rw [hyy, hnn] at hcm hcmb g0 g1 o0
      gi_wp2
      rw [← hyy, ← hnn, ← hE]
      have H5 : Hid (prodN a b (pre ++ [p]).length = prodN a b p) := (show _ = _ by rw [Hp1.out, prodN_succ, Hatp.out, Hat.out]; exact List.append_nil _)
      exact ⟨KeepS.of_chg HcE.out.any, D, ⟨_, xs', by rw [H5.out]; exact HD2.out.keep HcE.out (fun _ e => e.elim), by rw [H5.out]; exact H4.out, Hcw.out.trans1 HcE.out, HDlo.out⟩, fun k hk => .inl hk⟩
  · rintro D W ⟨sl, xs', hD, h4, hc, -⟩ hdf
    rw [List.length_range] at hD h4
    have hN : prodN a b (xs.length * ys.length) = pairsI a b := by unfold pairsI; rw [Hxl.out, Hyl.out]
    rw [hN] at hD h4
    obtain ⟨ao, c, rfl, hmin⟩ := hD.own.min
    have hle := least_any (mk := mk) (c := c) hD.own.fst hmin
    have o2 := cell_row hD.box.2 0 (v := .slice ao (pairsI a b).length c) rfl
    have H4 := Lib.hid h4
    have Hc := Lib.hid hc
    have Hdf := Lib.hid hdf
    have HoW : Hid (ob ≤ W.heap.size) := (show ob ≤ W.heap.size by have := hc.size; have := Hob.out; omega)
    clear hD h4 hc hdf hN hmin
    refine wpAt_of_wp ?_
    go_wp2_with fail
    (with_reducible refine hle.mono ?_)
    clear hle o2
    rintro e w2 ⟨hc2, ⟨h9, -⟩ | ⟨-, sl2, xs2, rfl, hown⟩⟩
    · exact absurd h9 (by have := H4.out; omega)
    · have Hw2 : Hid (Chg Nob w w2) := (show Chg Nob w w2 from Hc.out.trans1 hc2)
      have Hd2 := Lib.hid (hc2.at Hdf.out (fun e => e))
      have Hown := Lib.hid hown
      clear hc2 hown
      go_wp2_with fail
      refine leaves_one Hd2.out (fun W' hc' => ⟨_, results_tmp rfl _ _ _, Hw2.out.trans hc' (fun i hi e => by have e : i = Z.heap.size := e; have := HsZ.out; have := Hob.out; omega), .inr ⟨H4.out, sl2, xs2, rfl, ?_⟩⟩)
      have hown := Hown.out
      have hne : ∀ q, (∃ cs t m, w2.heap[q]? = some (.cells cs t m)) → ¬ At1 Z.heap.size q := by
        rintro q ⟨cs, t, m, h⟩ e
        have e : q = Z.heap.size := e
        subst e
        rw [Hd2.out] at h
        cases h
      refine MOwn.low (lo := W.heap.size) ⟨ownsRow_chg hown.own hc' (fun q hq => ?_), hown.fst, fun x hx => ?_⟩ (by have := HoW.out; have := Hob.out; omega)
      · obtain ⟨cs, m, h⟩ := ownsRow_block hown.own q hq
        exact hne q ⟨cs, 75, m, h⟩
      · obtain ⟨t1, t2, t3⟩ := hown.tos x hx
        exact ⟨t1, t2.typed hc' (fun q e cs m h => hne q ⟨cs, 3, m, h⟩ e), t3⟩
  · rintro ch W ⟨rfl, h4, hc⟩ hdf
    exact leaves_oneP hdf (fun W' hc' => ⟨hc.trans hc' (fun i hi e => by have e : i = Z.heap.size := e; have := HsZ.out; have := Hob.out; omega), .inl ⟨h4, rfl⟩⟩)
end Go.Proofs.YtkgfdgfhpdhhaaaGreat
