/- Parts of the walks and of the plain theory: Those moves are left out that another one covers. Condition: the row lies in the world. -/
import Derived.Test.YtkgfdgfhpdhhaaaGreatU19
import Derived.Laws.EntriesVeiled
import Derived.Test.YtkgfdgfhpdhhaaaGreatU04
namespace Go.Proofs.YtkgfdgfhpdhhaaaGreat
open Go.ChangeShapes Go.WideShapes Go.RowKit
attribute [local go_sem] Oper.semAt_some
def manyE : List PanicEntry := [{ v := .iface 57 (.agg #[]), recovered := false }]
def keepStep (ms : List Mvi) (i k : Nat) : Bool := (k == i) || (!coversI (ms.getD k m0) (ms.getD i m0) || (decide (i < k) && coversI (ms.getD i m0) (ms.getD k m0)))
def keepI (ms : List Mvi) (i n : Nat) : Bool := (List.range n).all fun k => keepStep ms i k
def leastI (ms : List Mvi) (n : Nat) : List Mvi := ((List.range n).filter fun i => keepI ms i ms.length).map fun i => ms.getD i m0
theorem keepI_succ (ms : List Mvi) (i n : Nat) : keepI ms i (n + 1) = (keepI ms i n && keepStep ms i n) := by
  unfold keepI
  rw [List.range_succ, List.all_append]
  simp
theorem leastI_succ (ms : List Mvi) (n : Nat) : leastI ms (n + 1) = leastI ms n ++ (if keepI ms n ms.length then [ms.getD n m0] else []) := by
  unfold leastI
  rw [List.range_succ, List.filter_append, List.map_append]
  congr 1
  by_cases h : keepI ms n ms.length <;> simp [h]
def MIn (W : World) (ao : Option Addr) (xs : List MvS) : Prop := ∀ j x, xs[j]? = some x → ∃ b o, ao = some ⟨b, o, none⟩ ∧ W.cell? ⟨b, o + j * 3, none⟩ = some (.int .u64 x.1.yes) ∧ W.cell? ⟨b, o + j * 3 + 1, none⟩ = some (.int .u64 x.1.no) ∧ W.cell? ⟨b, o + j * 3 + 2, none⟩ = some (.slice x.2.1 x.1.to.length x.2.2) ∧ x.1.to.length ≤ 2000000 ∧ TRow W 0 x.2.1 x.1.to ∧ (x.2.1 = none → x.2.2 = 0)
theorem MIn.nob {W W' : World} {ao : Option Addr} {xs : List MvS} (h : MIn W ao xs) (hc : Chg Nob W W') : MIn W' ao xs := fun j x hj => by
  obtain ⟨b, o, e, c0, c1, c2, hl, ht, hn⟩ := h j x hj
  exact ⟨b, o, e, hc.cell' c0 (fun e => e), hc.cell' c1 (fun e => e), hc.cell' c2 (fun e => e), hl, ht.nob hc, hn⟩
theorem MOwn.min {W : World} {lo : Nat} {sl : Value} {ms : List Mvi} {xs : List MvS} (h : MOwn W lo sl ms xs) : ∃ ao c, sl = .slice ao ms.length c ∧ MIn W ao xs := by
  rcases Nat.eq_zero_or_pos ms.length with h0 | hpos
  · obtain ⟨ao, c, e⟩ := ownsRow_shape h.own
    refine ⟨ao, c, e, fun j x hj => ?_⟩
    have hl : xs.length = ms.length := by rw [← h.fst, List.length_map]
    have := (List.getElem?_eq_some_iff.1 hj).1
    omega
  · obtain ⟨g, c, rfl, hc⟩ := ownsRow_some h.own hpos
    refine ⟨_, c, rfl, fun j x hxj => ?_⟩
    obtain ⟨t1, t2, t3⟩ := h.tos x (List.mem_of_getElem? hxj)
    have q0 := hc (j * 3 + 0) _ ((flatM_at hxj (q := 0) (by decide)).trans rfl)
    have q1 := hc (j * 3 + 1) _ ((flatM_at hxj (q := 1) (by decide)).trans rfl)
    have q2 := hc (j * 3 + 2) _ ((flatM_at hxj (q := 2) (by decide)).trans rfl)
    rw [Go.WideShapes.add_plain] at q0 q1 q2
    exact ⟨g, 0, rfl, q0, q1, q2, t1, t2, t3⟩
theorem MOwn.push {W : World} {lo : Nat} {sl : Value} {ms : List Mvi} {xs : List MvS} (h : MOwn W lo sl ms xs) (hlo : lo ≤ W.heap.size) (hn : ms.length ≤ 1000000) (x : MvS) (hx : x.1.to.length ≤ 2000000 ∧ TRow W 0 x.2.1 x.1.to ∧ (x.2.1 = none → x.2.2 = 0)) :
    ∃ sl' W', (Builtin.append_ #[67, 67] 67 #[sl, .slice (some ⟨W.heap.size, 0, none⟩) 1 1]).run Tryz.prog (W.alloc (.cells (cellsM x).toArray 75)) = .ok sl' W' ∧ MOwn W' lo sl' (ms ++ [x.1]) (xs ++ [x]) ∧ Chg (fun q => sl.ownBlock = some q) W W' := by
  have hA : Chg Nob W (W.alloc (.cells (cellsM x).toArray 75)) := (Chg.refl _ _).alloc _
  obtain ⟨g', cap, W', hrun, hrow, hgr, hlies, hg'⟩ := append75 (ownsRow_chg h.own hA (fun _ _ e => e)) (by rw [World.size_alloc]; omega) (by omega) (by rfl) (cellsM_one x) (heap_alloc_new W (.cells (cellsM x).toArray 75))
  have hc : Chg (fun q => sl.ownBlock = some q) W W' := (hA.any (S := fun q => sl.ownBlock = some q)).trans1 ((Chg.refl _ _).grown hgr (fun q hq _ => hq))
  refine ⟨_, W', hrun, ⟨?_, by rw [List.map_append, h.fst]; rfl, fun y hy => ?_⟩, hc⟩
  · rw [List.length_append, List.flatMap_append, List.flatMap_cons, List.flatMap_nil, List.append_nil]
    exact hrow
  · have hty : ∀ q, sl.ownBlock = some q → ∀ cs m, W.heap[q]? ≠ some (.cells cs 3 m) := fun q hq cs m hb => by
      obtain ⟨cs', m', hb2⟩ := ownsRow_block h.own q hq
      rw [hb] at hb2
      simp at hb2
    rcases List.mem_append.1 hy with hy | hy
    · obtain ⟨a, b, c⟩ := h.tos y hy
      exact ⟨a, b.typed hc hty, c⟩
    · obtain rfl := List.mem_singleton.1 hy
      exact ⟨hx.1, hx.2.1.typed hc hty, hx.2.2⟩
section
variable {w : World} {ao : Option Addr} {ms : List Mvi} {xs : List MvS} {c : Nat} {mk : Value}
def LeastPost (ms : List Mvi) (w : World) (e : Ending) (w' : World) : Prop := Chg Nob w w' ∧ ((4096 < ms.length ∧ e = .panicked manyE) ∨ (ms.length ≤ 4096 ∧ ∃ sl xs', e = .returned sl ∧ MOwn w' w.heap.size sl (leastI ms ms.length) xs'))
set_option maxRecDepth 100000 in
set_option maxHeartbeats 8000000 in
theorem least_any (hfst : xs.map (·.1) = ms) (h : MIn w ao xs) : Calls Tryz.prog 116 #[mk, .slice ao ms.length c] w (LeastPost ms w) := by
  have hxl : xs.length = ms.length := by rw [← hfst, List.length_map]
  have hget : ∀ (j : Nat) (x : MvS), xs[j]? = some x → ms.getD j m0 = x.1 := fun j x hj => by
    rw [List.getD_eq_getElem?_getD, ← hfst, List.getElem?_map, hj]; rfl
  have H := Lib.hid h
  have Hget := Lib.hid hget
  have Hxl := Lib.hid hxl
  clear h hget hfst hxl
  by_cases hbig : 4096 < ms.length
  · have hb : (4096 : Int) < (ms.length : Int) := by omega
    go_enter Tryz.func116, Tryz.ntmps116
    go_wp2_with fail
    exact ⟨rfl, Chg.refl _ _, Or.inl ⟨hbig, rfl⟩⟩
  · have hb : ¬ (4096 : Int) < (ms.length : Int) := by omega
    have hbd : decide ((4096 : Int) < (ms.length : Int)) = false := decide_eq_false hb
    have H4 : Hid (ms.length ≤ 4096) := (show ms.length ≤ 4096 by omega)
    go_enter Tryz.func116, Tryz.ntmps116
    go_wp2_with fail
    clear hb hbd hbig
    have hM4 : ms.length ≤ 4096 := H4.out
    go_loopw [5, 18] (fun ov iv wr => ∃ (i : Nat) (xs' : List MvS), iv = .int .i64 (i : Int) ∧ i ≤ ms.length ∧ Hid (MOwn wr w.heap.size ov (leastI ms i) xs') ∧ Hid (Chg Nob w wr)) (fun _ iv _ => ms.length - (intOf iv).toNat)
    case atStart => exact ⟨0, [], rfl, Nat.zero_le _, (show MOwn w w.heap.size _ (leastI ms 0) [] from ⟨World.ownsRow_nil _ _ _ _, rfl, fun x hx => by simp at hx⟩), Chg.refl _ _⟩
    case round =>
      obtain ⟨i, xs', rfl, hi, HO, Hc⟩ := hrel
      by_cases hlt : i < ms.length
      · obtain ⟨x, hx⟩ : ∃ x, xs[i]? = some x := ⟨_, List.getElem?_eq_getElem (by have := Hxl.out; omega)⟩
        obtain ⟨b, o, rfl, x0, x1, x2, hxl, hxt, hxn⟩ := (H.out.nob Hc.out) i x hx
        have Hx := Lib.hid (Hget.out i x hx)
        have hii : (i : Int) < (ms.length : Int) := by omega
        have hi0 : (0 : Int) ≤ (i : Int) := by omega
        obtain ⟨Q, hQ, hcQ, hbQ, hsQ⟩ := box_cells wr #[.int .u64 x.1.yes, .int .u64 x.1.no, .slice x.2.1 x.1.to.length x.2.2] 75
        have HQ := Lib.hid (Hc.out.trans1 hcQ)
        have HOQ := Lib.hid (HO.out.nob hcQ)
        have HbQ : Hid (∀ V, Chg Nob Q V → V.cell? ⟨wr.heap.size, 0, none⟩ = some (.int .u64 x.1.yes) ∧ V.cell? ⟨wr.heap.size, 1, none⟩ = some (.int .u64 x.1.no) ∧ V.cell? ⟨wr.heap.size, 2, none⟩ = some (.slice x.2.1 x.1.to.length x.2.2)) := (show ∀ V, Chg Nob Q V → _ ∧ _ ∧ _ from fun V hV => by
          obtain ⟨q0, q1, q2, _⟩ := cells_three hbQ
          exact ⟨hV.cell' q0 (fun e => e), hV.cell' q1 (fun e => e), hV.cell' q2 (fun e => e)⟩)
        have Hxt : Hid (x.1.to.length ≤ 2000000 ∧ TRow Q 0 x.2.1 x.1.to ∧ (x.2.1 = none → x.2.2 = 0)) := Lib.hid ⟨hxl, hxt.nob hcQ, hxn⟩
        clear hx hxl hxt hxn hbQ hcQ hsQ
        go_upto_region 7 with fail
        rw [← hQ]
        clear hQ x0 x1 x2
        generalize hqb : wr.heap.size = qb at *
        clear hqb
        go_wp2_with fail
        go_loopw [8, 25] (fun bv kv W => ∃ (k : Nat) (kb : Bool), kv = .int .i64 (k : Int) ∧ bv = .bool kb ∧ k ≤ ms.length ∧ Hid (kb = keepI ms i k) ∧ Hid (Chg Nob Q W)) (fun _ kv _ => ms.length - (intOf kv).toNat)
        case atStart => exact ⟨0, true, rfl, rfl, Nat.zero_le _, (show true = keepI ms i 0 by rfl), Chg.refl _ _⟩
        case round =>
          obtain ⟨k, kb, rfl, rfl, hk, Hkb, Hc2⟩ := hrel
          by_cases hkl : k < ms.length
          · obtain ⟨y, hy⟩ : ∃ y, xs[k]? = some y := ⟨_, List.getElem?_eq_getElem (by have := Hxl.out; omega)⟩
            obtain ⟨b', o', hbo, y0, y1, y2, hyl, hyt, _⟩ := (H.out.nob (HQ.out.trans1 Hc2.out)) k y hy
            cases hbo
            have Hy := Lib.hid (Hget.out k y hy)
            have hki : (k : Int) < (ms.length : Int) := by omega
            have hk0 : (0 : Int) ≤ (k : Int) := by omega
            obtain ⟨E, hE, hcE, hbE, hsE⟩ := box_cells wr #[.int .u64 y.1.yes, .int .u64 y.1.no, .slice y.2.1 y.1.to.length y.2.2] 75
            have HE : Hid (∀ V, Chg Nob E V → V.cell? ⟨wr.heap.size, 0, none⟩ = some (.int .u64 y.1.yes) ∧ V.cell? ⟨wr.heap.size, 1, none⟩ = some (.int .u64 y.1.no) ∧ V.cell? ⟨wr.heap.size, 2, none⟩ = some (.slice y.2.1 y.1.to.length y.2.2)) := (show ∀ V, Chg Nob E V → _ ∧ _ ∧ _ from fun V hV => by
              obtain ⟨q0, q1, q2, _⟩ := cells_three hbE
              exact ⟨hV.cell' q0 (fun e => e), hV.cell' q1 (fun e => e), hV.cell' q2 (fun e => e)⟩)
            have HcE := Lib.hid (Hc2.out.trans1 hcE)
            have Hp1 : Hid (∀ V, Chg Nob E V → Calls Tryz.prog 155 #[.agg #[.int .u64 y.1.yes, .int .u64 y.1.no, .slice y.2.1 y.1.to.length y.2.2], .agg #[.int .u64 x.1.yes, .int .u64 x.1.no, .slice x.2.1 x.1.to.length x.2.2]] V fun e w' => e = .returned (.bool (coversI y.1 x.1)) ∧ Chg Nob V w') := (show ∀ V, Chg Nob E V → Calls Tryz.prog 155 #[.agg #[.int .u64 y.1.yes, .int .u64 y.1.no, .slice y.2.1 y.1.to.length y.2.2], .agg #[.int .u64 x.1.yes, .int .u64 x.1.no, .slice x.2.1 x.1.to.length x.2.2]] V fun e w' => e = .returned (.bool (coversI y.1 x.1)) ∧ Chg Nob V w' from fun V hV => covers_any hyl Hxt.out.1 ((hyt.nob hcE).nob hV).1 (Hxt.out.2.1.nob (HcE.out.trans1 hV)).1)
            have Hp2 : Hid (∀ V, Chg Nob E V → Calls Tryz.prog 155 #[.agg #[.int .u64 x.1.yes, .int .u64 x.1.no, .slice x.2.1 x.1.to.length x.2.2], .agg #[.int .u64 y.1.yes, .int .u64 y.1.no, .slice y.2.1 y.1.to.length y.2.2]] V fun e w' => e = .returned (.bool (coversI x.1 y.1)) ∧ Chg Nob V w') := (show ∀ V, Chg Nob E V → Calls Tryz.prog 155 #[.agg #[.int .u64 x.1.yes, .int .u64 x.1.no, .slice x.2.1 x.1.to.length x.2.2], .agg #[.int .u64 y.1.yes, .int .u64 y.1.no, .slice y.2.1 y.1.to.length y.2.2]] V fun e w' => e = .returned (.bool (coversI x.1 y.1)) ∧ Chg Nob V w' from fun V hV => covers_any Hxt.out.1 hyl (Hxt.out.2.1.nob (HcE.out.trans1 hV)).1 ((hyt.nob hcE).nob hV).1)
            obtain ⟨c1, hc1⟩ : ∃ c1, c1 = coversI y.1 x.1 := ⟨_, rfl⟩
            obtain ⟨c2, hc2⟩ : ∃ c2, c2 = coversI x.1 y.1 := ⟨_, rfl⟩
            rw [← hc1] at Hp1
            rw [← hc2] at Hp2
            have Hstep : ∀ z : Bool, z = (kb && ((k == i) || (!c1 || (decide (i < k) && c2)))) → Hid (z = keepI ms i (k + 1)) := fun z hz => Lib.hid (by
              rw [keepI_succ, ← Hkb.out, hz]
              unfold keepStep
              rw [Hx.out, Hy.out, ← hc1, ← hc2])
            have hXE := HbQ.out
            clear hy hyl hyt hbE hcE hsE hc1 hc2
            go_upto_region 11 with fail
            rw [← hE]
            clear hE y0 y1 y2
            generalize hye : wr.heap.size = ye at *
            clear hye
            cases kb with
            | false =>
              have H2 := Hstep false rfl
              clear Hstep
              go_wp2_with fail
              go_roundw
              case rel => exact ⟨k + 1, false, by go_num, rfl, by omega, H2, HcE⟩
              case measure => simp [intOf]; omega
            | true =>
              by_cases hki2 : k = i
              · have hkb : (k == i) = true := beq_iff_eq.2 hki2
                have H2 := Hstep true (by rw [hkb]; rfl)
                have hkI : (k : Int) = (i : Int) := by omega
                clear Hstep
                go_wp2_with fail
                go_roundw
                case rel => exact ⟨k + 1, true, by go_num, rfl, by omega, H2, HcE⟩
                case measure => simp [intOf]; omega
              · have hkb : (k == i) = false := beq_eq_false_iff_ne.2 hki2
                have hkI : ((k : Int) == (i : Int)) = false := beq_eq_false_iff_ne.2 (by omega)
                obtain ⟨q0, q1, q2⟩ := HbQ.out E HcE.out
                obtain ⟨r0, r1, r2⟩ := HE.out E (Chg.refl _ _)
                have hp := Hp1.out E (Chg.refl _ _)
                go_wp2_with fail
                (with_reducible refine hp.mono ?_)
                clear hp q0 q1 q2 r0 r1 r2
                rintro e w5 ⟨rfl, hc5⟩
                have H5 : Hid (Chg Nob E w5) := Lib.hid hc5
                have H5q : Hid (Chg Nob Q w5) := (show Chg Nob Q w5 from HcE.out.trans1 hc5)
                clear hc5
                cases c1 with
                | false =>
                  have H2 := Hstep true (by rw [hkb]; rfl)
                  clear Hstep
                  go_wp2_with fail
                  go_roundw
                  case rel => exact ⟨k + 1, true, by go_num, rfl, by omega, H2, H5q⟩
                  case measure => simp [intOf]; omega
                | true =>
                  by_cases hik : i < k
                  · have hiki : (i : Int) < (k : Int) := by omega
                    have hikd : decide (i < k) = true := decide_eq_true hik
                    obtain ⟨q0, q1, q2⟩ := HbQ.out w5 H5q.out
                    obtain ⟨r0, r1, r2⟩ := HE.out w5 H5.out
                    have hp := Hp2.out w5 H5.out
                    have H2 := Hstep c2 (by rw [hkb, hikd]; cases c2 <;> rfl)
                    clear Hstep
                    go_wp2_with fail
                    (with_reducible refine hp.mono ?_)
                    clear hp q0 q1 q2 r0 r1 r2
                    rintro e w6 ⟨rfl, hc6⟩
                    have H6q : Hid (Chg Nob Q w6) := (show Chg Nob Q w6 from H5q.out.trans1 hc6)
                    clear hc6
                    go_wp2_with fail
                    go_roundw
                    case rel => exact ⟨k + 1, c2, by go_num, rfl, by omega, H2, H6q⟩
                    case measure => simp [intOf]; omega
                  · have hiki : ¬ (i : Int) < (k : Int) := by omega
                    have hikid : decide ((i : Int) < (k : Int)) = false := decide_eq_false hiki
                    have hikd : decide (i < k) = false := decide_eq_false hik
                    have H2 := Hstep false (by rw [hkb, hikd]; rfl)
                    clear Hstep
                    go_wp2_with fail
                    go_roundw
                    case rel => exact ⟨k + 1, false, by go_num, rfl, by omega, H2, H5q⟩
                    case measure => simp [intOf]; omega
          · have hke : k = ms.length := by omega
            have hki : ¬ (k : Int) < (ms.length : Int) := by omega
            have hkid : decide ((k : Int) < (ms.length : Int)) = false := decide_eq_false hki
            have hkin : decide (k < ms.length) = false := decide_eq_false hkl
            have HOW := Lib.hid (HOQ.out.nob Hc2.out)
            have HcW := Lib.hid (HQ.out.trans1 Hc2.out)
            rw [hke] at Hkb
            clear hke
            cases kb with
            | false =>
              have H2 : Hid (MOwn wr w.heap.size u5 (leastI ms (i + 1)) xs') := (show MOwn wr w.heap.size u5 (leastI ms (i + 1)) xs' by
                rw [leastI_succ, ← Hkb.out, if_neg Bool.false_ne_true, List.append_nil]
                exact HOW.out)
              go_wp2_with fail
              go_roundw
              case rel => exact ⟨i + 1, xs', by go_num, by omega, H2, HcW⟩
              case measure => simp [intOf]; omega
            | true =>
              have hll : (leastI ms i).length ≤ 1000000 := by
                unfold leastI
                rw [List.length_map]
                have := List.length_filter_le (fun i => keepI ms i ms.length) (List.range i)
                rw [List.length_range] at this
                omega
              obtain ⟨sl', W', hrun, hown, hcw⟩ := HOW.out.push HcW.out.size hll x ⟨Hxt.out.1, Hxt.out.2.1.nob Hc2.out, Hxt.out.2.2⟩
              have H2 : Hid (MOwn W' w.heap.size sl' (leastI ms (i + 1)) (xs' ++ [x])) := (show MOwn W' w.heap.size sl' (leastI ms (i + 1)) (xs' ++ [x]) by
                rw [leastI_succ, ← Hkb.out, if_pos rfl, Hx.out]
                exact hown)
              have H3 : Hid (Chg Nob w W') := (show Chg Nob w W' from HcW.out.trans hcw (fun q hq e => by have := (HOW.out.own.lt q e).1; omega))
              obtain ⟨q0, q1, q2⟩ := HbQ.out wr Hc2.out
              have Hrun := Lib.hid hrun
              clear hrun hown hcw hll
              go_wp2_with (refine wpList_append_known rfl _ _ 67 67 rfl _ _ rfl rfl _ W' Hrun.out ?_)
              go_roundw
              case rel => exact ⟨i + 1, _, by go_num, by omega, H2, H3⟩
              case measure => simp [intOf]; omega
      · obtain rfl : i = ms.length := by omega
        go_wp2_with fail
        go_ret
        exact ⟨Hc.out, Or.inr ⟨H4.out, _, xs', rfl, HO.out⟩⟩
end
end Go.Proofs.YtkgfdgfhpdhhaaaGreat
namespace Go.Proofs.YtkgfdgfhpdhhaaaGreat
open Go.ChangeShapes Go.WideShapes Go.RowKit
attribute [local go_sem] Oper.semAt_some
mutual
def keyT : T → List UInt8
  | .node k nm kids => (97 + k.toNat).toUInt8 :: (nm ++ keyL kids)
def keyL : List T → List UInt8
  | [] => []
  | t :: ts => 40 :: (keyT t ++ (41 :: keyL ts))
end
theorem keyL_append (l m : List T) : keyL (l ++ m) = keyL l ++ keyL m := by
  induction l with
  | nil => rfl
  | cons t l ih => rw [List.cons_append, keyL, keyL, ih]; simp
theorem keyT_eq (t : T) : keyT t = (97 + t.kind.toNat).toUInt8 :: (t.name ++ keyL t.kids) := by
  cases t; rw [keyT]; rfl
theorem encode_key {k : Int} (h : 1 ≤ k ∧ k ≤ 14) : Utf8.encode (97 + k) = ⟨[(97 + k.toNat).toUInt8].toArray⟩ := by
  have : k = 1 ∨ k = 2 ∨ k = 3 ∨ k = 4 ∨ k = 5 ∨ k = 6 ∨ k = 7 ∨ k = 8 ∨ k = 9 ∨ k = 10 ∨ k = 11 ∨ k = 12 ∨ k = 13 ∨ k = 14 := by omega
  rcases this with rfl | rfl | rfl | rfl | rfl | rfl | rfl | rfl | rfl | rfl | rfl | rfl | rfl | rfl <;> rfl
theorem join_bytes (a b : List UInt8) : (⟨a.toArray⟩ ++ ⟨b.toArray⟩ : ByteArray) = ⟨(a ++ b).toArray⟩ := by
  apply ByteArray.ext
  simp
theorem size_bytes (a : List UInt8) : (⟨a.toArray⟩ : ByteArray).size = a.length := by show a.toArray.size = _; simp
set_option maxRecDepth 100000 in
set_option maxHeartbeats 8000000 in
theorem key_step {R : Nat → Prop} {w : World} {t : T} {v : Value} (hk : 1 ≤ t.kind ∧ t.kind ≤ 14) (hsz : (keyT t).length ≤ 1000000000) (ht : IsTree R w t v) (ih : ∀ u ∈ t.kids, ∀ W u', Chg Nob w W → IsTree R W u u' → Calls Tryz.prog 114 #[u'] W fun e w' => e = .returned (.string ⟨(keyT u).toArray⟩) ∧ Chg Nob W w') :
    Calls Tryz.prog 114 #[v] w fun e w' => e = .returned (.string ⟨(keyT t).toArray⟩) ∧ Chg Nob w w' := by
  obtain ⟨ao, cap, rfl, hlen, hkids⟩ := ht.parts
  obtain ⟨X, hX, hcX, hb, hsX⟩ := box_cells w #[.int .i64 t.kind, .string ⟨t.name.toArray⟩, .slice ao t.kids.length cap] 24
  obtain ⟨c0, c1, c2, _⟩ := cells_three hb
  rw [hX] at c0 c1 c2
  have henc := encode_key hk
  have hsn := size_bytes t.name
  have hs1 := size_bytes [(97 + t.kind.toNat).toUInt8]
  have hj1 := join_bytes [(97 + t.kind.toNat).toUInt8] t.name
  have hkl := keyT_eq t
  have hkn : (keyT t).length = 1 + (t.name.length + (keyL t.kids).length) := by rw [hkl, List.length_cons, List.length_append]; omega
  have hnl : t.name.length ≤ 1000000000 := by omega
  have hll : t.name.length + (keyL t.kids).length ≤ 1000000000 := by omega
  have HcX := Lib.hid hcX
  have Hkids := Lib.hid hkids
  have Hih := Lib.hid ih
  have Hkl := Lib.hid hkl
  have Hll := Lib.hid hll
  have hk1 := hk.1
  have hk2 := hk.2
  clear hb hcX hsX hkids ih hkl hkn hsz ht hk
  go_enter Tryz.func114, Tryz.ntmps114
  go_wp2_with fail
  rw [← hX]
  clear hX c0 c1 c2 henc hs1 hsn
  go_loopw [3, 17] (fun sv jv wr => ∃ (j : Nat) (s : ByteArray), jv = .int .i64 (j : Int) ∧ sv = .string s ∧ j ≤ t.kids.length ∧ Hid (s = ⟨((97 + t.kind.toNat).toUInt8 :: (t.name ++ keyL (t.kids.take j))).toArray⟩) ∧ Hid (Chg Nob X wr)) (fun _ jv _ => t.kids.length - (intOf jv).toNat)
  case atStart => exact ⟨0, _, rfl, rfl, Nat.zero_le _, (show _ = _ by rw [List.take_zero, keyL, List.append_nil]; first | rfl | (rw [← hj1]; rfl) | (apply ByteArray.ext; simp)), Chg.refl _ _⟩
  case round =>
    obtain ⟨j, s, rfl, rfl, hj, Hs, Hc⟩ := hrel
    by_cases hlt : j < t.kids.length
    · obtain ⟨u, hu⟩ : ∃ u, t.kids[j]? = some u := ⟨_, List.getElem?_eq_getElem hlt⟩
      obtain ⟨b, o, ak, cp, rfl, _, q0, q1, q2, _, _, hut⟩ := Hkids.out.kid hu
      have hji : (j : Int) < (t.kids.length : Int) := by omega
      have hj0 : (0 : Int) ≤ (j : Int) := by omega
      have e0 := (HcX.out.trans1 Hc.out).cell' q0 (fun e => e)
      have e1 := (HcX.out.trans1 Hc.out).cell' q1 (fun e => e)
      have e2 := (HcX.out.trans1 Hc.out).cell' q2 (fun e => e)
      obtain ⟨E, hE, hcE, hbE, _⟩ := box_cells wr #[.int .i64 u.kind, .string ⟨u.name.toArray⟩, .slice ak u.kids.length cp] 24
      obtain ⟨r0, r1, r2, _⟩ := cells_three hbE
      rw [hE] at r0 r1 r2
      have HcE := Lib.hid (Hc.out.trans1 hcE)
      have hp := Hih.out u (List.mem_of_getElem? hu) E _ (HcX.out.trans1 HcE.out) (hut.nob (HcX.out.trans1 HcE.out))
      have htk : t.kids.take (j + 1) = t.kids.take j ++ [u] := by
        rw [List.take_succ_eq_append_getElem hlt]
        rw [List.getElem?_eq_getElem hlt] at hu
        simp only [Option.some.injEq] at hu
        rw [hu]
      have hkey : keyL (t.kids.take (j + 1)) = keyL (t.kids.take j) ++ (40 :: (keyT u ++ [41])) := by rw [htk, keyL_append, keyL, keyL]
      have hall : (keyL t.kids).length = (keyL (t.kids.take (j + 1))).length + (keyL (t.kids.drop (j + 1))).length := by
        rw [← List.length_append, ← keyL_append, List.take_append_drop]
      have hlen3 : t.name.length + ((keyL (t.kids.take j)).length + ((keyT u).length + 2)) ≤ 1000000000 := by
        rw [hkey, List.length_append, List.length_cons, List.length_append] at hall
        simp only [List.length_cons, List.length_nil] at hall
        have := Hll.out
        omega
      have hss : s.size ≤ 1000000001 := by rw [Hs.out, size_bytes, List.length_cons, List.length_append]; omega
      obtain ⟨ku, hku⟩ : ∃ ku : ByteArray, ku = ⟨(keyT u).toArray⟩ := ⟨_, rfl⟩
      have hkus : ku.size ≤ 1000000000 := by rw [hku, size_bytes]; omega
      rw [← hku] at hp
      obtain ⟨s1, h1⟩ : ∃ s1 : ByteArray, ⟨#[40]⟩ ++ ku = s1 := ⟨_, rfl⟩
      have h1s : s1.size = 1 + ku.size := by rw [← h1, ByteArray.size_append]; rfl
      obtain ⟨s2, h2⟩ : ∃ s2 : ByteArray, s1 ++ ⟨#[41]⟩ = s2 := ⟨_, rfl⟩
      have h2s : s2.size = s1.size + 1 := by rw [← h2, ByteArray.size_append]; rfl
      obtain ⟨s3, h3⟩ : ∃ s3 : ByteArray, s ++ s2 = s3 := ⟨_, rfl⟩
      have Hs3 : Hid (s3 = ⟨((97 + t.kind.toNat).toUInt8 :: (t.name ++ keyL (t.kids.take (j + 1)))).toArray⟩) := (show s3 = _ by
        rw [← h3, ← h2, ← h1, hku, Hs.out, hkey]
        apply ByteArray.ext
        simp)
      have hs1b : s1.size ≤ 1000000001 := by omega
      have hs2b : s2.size ≤ 1000000002 := by omega
      have hc40 : (⟨#[40]⟩ : ByteArray).size = 1 := rfl
      have hc41 : (⟨#[41]⟩ : ByteArray).size = 1 := rfl
      clear q0 q1 q2 hut htk hkey hall hlen3 hku hbE hcE hu h1s h2s
      go_wp2_with fail
      rw [← hE]
      (with_reducible refine hp.mono ?_)
      clear hp hE r0 r1 r2 e0 e1 e2
      rintro e w5 ⟨rfl, hc5⟩
      have H5 : Hid (Chg Nob X w5) := (show Chg Nob X w5 from HcE.out.trans1 hc5)
      clear hc5
      go_wp2_with fail
      go_roundw
      case rel => exact ⟨j + 1, s3, by go_num, rfl, by omega, Hs3, H5⟩
      case measure => simp [intOf]; omega
    · obtain rfl : j = t.kids.length := by omega
      go_wp2_with fail
      go_ret
      exact ⟨by rw [Hkl.out]; have h1 := Hs.out; rw [List.take_length] at h1; rw [← h1]; rfl, HcX.out.trans1 Hc.out⟩
theorem keyL_mem : ∀ {l : List T} {u : T}, u ∈ l → (keyT u).length ≤ (keyL l).length
  | [], _, h => by simp at h
  | t :: ts, u, h => by
    rw [keyL, List.length_cons, List.length_append, List.length_cons]
    rcases List.mem_cons.1 h with rfl | h
    · omega
    · have := keyL_mem h; omega
theorem allL_memk : ∀ {l : List T} {u x : T}, u ∈ l → x ∈ allT u → x ∈ allL l
  | [], _, _, h, _ => by simp at h
  | t :: ts, u, x, h, hx => by
    rw [allL, List.mem_append]
    rcases List.mem_cons.1 h with rfl | h
    · exact Or.inl hx
    · exact Or.inr (allL_memk h hx)
theorem key_any : ∀ t : T, (∀ u ∈ allT t, 1 ≤ u.kind ∧ u.kind ≤ 14) → (keyT t).length ≤ 1000000000 → ∀ (R : Nat → Prop) (w : World) (v : Value), IsTree R w t v → Calls Tryz.prog 114 #[v] w fun e w' => e = .returned (.string ⟨(keyT t).toArray⟩) ∧ Chg Nob w w' := by
  refine kid_induct ?_
  intro t ih hk hl R w v ht
  have hown : 1 ≤ t.kind ∧ t.kind ≤ 14 := hk t (by cases t; rw [allT]; exact List.mem_cons_self ..)
  refine key_step hown hl ht (fun u hu W u' hW hut => ih u hu (fun x hx => hk x ?_) ?_ R W u' hut)
  · cases t with
    | node k nm kids => rw [allT]; exact List.mem_cons_of_mem _ (allL_memk hu hx)
  · have h1 := keyL_mem hu
    rw [keyT_eq, List.length_cons, List.length_append] at hl
    omega
end Go.Proofs.YtkgfdgfhpdhhaaaGreat
namespace Go.Proofs.YtkgfdgfhpdhhaaaGreat
open Go.ChangeShapes Go.WideShapes Go.RowKit
attribute [local go_sem] Oper.semAt_some
theorem results27 {rb : Nat} {tm : Array Value} {w : World} {x y z : Value} (h2 : tm[0]? = some (.pointer (some ⟨rb, 0, none⟩))) (hb : w.heap[rb]? = some (.cells #[x, y, z] 24 (0, 0))) :
    (results Tryz.f27 tm).run Tryz.prog w = .ok (.agg #[x, y, z]) w := by
  obtain ⟨c0, c1, c2, _⟩ := cells_three hb
  simp [results, Tryz.results27, go_sem, h2, c0, c1, c2]
def nPz : T := .node 3 [112] []
def nQz : T := .node 3 [113] []
def tUz : T := .node 12 [] [nPz, nQz]
set_option maxRecDepth 100000 in
set_option maxHeartbeats 2000000 in
theorem until_law (w : World) : Calls Tryz.prog 27 #[] w fun e w' => Chg Nob w w' ∧ ∃ g, e = .returned (.agg #[.int .i64 12, .string ⟨#[]⟩, .slice (some ⟨g, 0, none⟩) 2 2]) ∧ w.heap.size ≤ g ∧ w'.heap[g]? = some (.cells #[.int .i64 3, .string ⟨#[112]⟩, .slice none 0 0, .int .i64 3, .string ⟨#[113]⟩, .slice none 0 0] 24 (0, 0)) := by
  obtain ⟨A, hA⟩ : ∃ A, A = Obj.cells #[.int .i64 12, .string ⟨#[]⟩, .slice (some ⟨w.heap.size + 1, 0, none⟩) 2 2] 24 (0, 0) := ⟨_, rfl⟩
  obtain ⟨B, hB⟩ : ∃ B, B = Obj.cells #[.int .i64 3, .string ⟨#[112]⟩, .slice none 0 0, .int .i64 3, .string ⟨#[113]⟩, .slice none 0 0] 24 (0, 0) := ⟨_, rfl⟩
  have h1 := heap_alloc_new (w.alloc A) B
  rw [World.size_alloc] at h1
  have h0 : ((w.alloc A).alloc B).heap[w.heap.size]? = some A := ((Chg.refl Nob _).alloc B).at (heap_alloc_new w A) (fun e => e)
  have hc : Chg Nob w ((w.alloc A).alloc B) := ((Chg.refl _ _).alloc _).alloc _
  rw [hA] at h0
  rw [hB] at h1
  rw [hA, hB] at hc
  rw [hB] at h0
  rw [hA] at h1
  clear hA hB
  go_enter Tryz.func27, Tryz.ntmps27
  go_wp2_with fail
  exact bodyPost_ret (results27 rfl h0) rfl ⟨hc, w.heap.size + 1, rfl, by omega, h1⟩
end Go.Proofs.YtkgfdgfhpdhhaaaGreat
namespace Go.Proofs.YtkgfdgfhpdhhaaaGreat
open Go.ChangeShapes Go.WideShapes Go.RowKit
attribute [local go_sem] Oper.semAt_some
abbrev StS := List Int × Option Addr × Nat
def cellS (x : StS) : Value := .slice x.2.1 x.1.length x.2.2
structure SOwn (W : World) (lo : Nat) (sl : Value) (ls : List (List Int)) (xs : List StS) : Prop where
  own : W.ownsRow lo 73 1 sl ls.length (xs.map cellS)
  fst : xs.map (·.1) = ls
  tos : ∀ x ∈ xs, x.1.length ≤ 2000000 ∧ TRow W 0 x.2.1 x.1 ∧ (x.2.1 = none → x.2.2 = 0)
def SIn (W : World) (ao : Option Addr) (xs : List StS) : Prop := ∀ j x, xs[j]? = some x → ∃ b o, ao = some ⟨b, o, none⟩ ∧ W.cell? ⟨b, o + j, none⟩ = some (cellS x) ∧ x.1.length ≤ 2000000 ∧ TRow W 0 x.2.1 x.1 ∧ (x.2.1 = none → x.2.2 = 0)
theorem SOwn.sin {W : World} {lo : Nat} {sl : Value} {ls : List (List Int)} {xs : List StS} (h : SOwn W lo sl ls xs) : ∃ ao c, sl = .slice ao ls.length c ∧ SIn W ao xs := by
  rcases Nat.eq_zero_or_pos ls.length with h0 | hpos
  · obtain ⟨ao, c, e⟩ := ownsRow_shape h.own
    refine ⟨ao, c, e, fun j x hj => ?_⟩
    have hl : xs.length = ls.length := by rw [← h.fst, List.length_map]
    have := (List.getElem?_eq_some_iff.1 hj).1
    omega
  · obtain ⟨g, c, rfl, hc⟩ := ownsRow_some h.own hpos
    refine ⟨_, c, rfl, fun j x hxj => ?_⟩
    obtain ⟨t1, t2, t3⟩ := h.tos x (List.mem_of_getElem? hxj)
    have q0 := hc j (cellS x) (by rw [List.getElem?_map, hxj]; rfl)
    rw [Go.WideShapes.add_plain] at q0
    exact ⟨g, 0, rfl, q0, t1, t2, t3⟩
end Go.Proofs.YtkgfdgfhpdhhaaaGreat
namespace Go.Proofs.YtkgfdgfhpdhhaaaGreat
open Go.ChangeShapes Go.WideShapes Go.RowKit
attribute [local go_sem] Oper.semAt_some
section
variable {w : World} {ao : Option Addr} {ls : List (List Int)} {xs : List StS} {c : Nat}
end
end Go.Proofs.YtkgfdgfhpdhhaaaGreat
namespace Go.Proofs.YtkgfdgfhpdhhaaaGreat
open Go.ChangeShapes Go.WideShapes Go.RowKit Go.Shelf
def wpAt (f : FuncId) (P : Program) (c : Code) (Q : Exit → Act → World → Prop) (a : Act) (w : World) : Prop :=
  ∀ (b : Frame) (k : List Item) (cs : List Frame), b.roundOf = none → b.fn = f →
    ∃ e a' w', Q e a' w' ∧ ArrivesIn (Machine.fenced P Fence.wide) P (lone (b.atR a (.code c :: k)) cs w) b k cs e a' w'
section
variable {f : FuncId} {n : Nat} {P : Program} {Q : Exit → Act → World → Prop} {a : Act} {w : World}
theorem wpAt_of_wpIn {c : Code} (h : c.wpIn Fence.wide n P Q a w) : wpAt f P c Q a w := fun b k cs hro _ => h b k cs hro trivial (room_wide _)
theorem wpAt_of_wp {c : Code} (h : c.wp P Q a w) : wpAt f P c Q a w := wpAt_of_wpIn (n := 1) (wpIn_wide.2 h)
theorem calmW {fr : Frame} {cs : List Frame} {w : World} : (lone fr cs w).fenced P Fence.wide := fenced_wide _ _
theorem wpAt_seq {x y : Code} (h : wpAt f P x (Exit.then (wpAt f P y Q) Q) a w) : wpAt f P (Code.seq x y) Q a w := by
  intro b k cs hro hb
  have h0 : (lone (b.atR a (.code (.seq x y) :: k)) cs w).fenced P Fence.wide := calmW
  obtain ⟨e, a₁, w₁, hq, harr⟩ := h b (.code y :: k) cs hro hb
  cases e with
  | normal =>
    obtain ⟨e₂, a₂, w₂, hq₂, harr₂⟩ := hq b k cs hro hb
    exact ⟨e₂, a₂, w₂, hq₂, .of_steps (.head h0 stepR_seq harr) harr₂⟩
  | exit id => exact ⟨_, a₁, w₁, hq, .of_steps (.one h0 stepR_seq) (.pass (x := .code y) rfl (fun _ _ => .inl (by simp)) harr)⟩
  | goto l => exact ⟨_, a₁, w₁, hq, .of_steps (.one h0 stepR_seq) (.pass (x := .code y) rfl (fun _ _ => .inl (by simp)) harr)⟩
  | ret => exact ⟨_, a₁, w₁, hq, .of_steps (.one h0 stepR_seq) (.pass (x := .code y) rfl (fun _ _ => .inl (by simp)) harr)⟩
  | panic ch => exact ⟨_, a₁, w₁, hq, .of_steps (.one h0 stepR_seq) (.pass (x := .code y) rfl (fun _ _ => .inl (by simp)) harr)⟩
  | outgrown => exact ⟨_, a₁, w₁, hq, .of_steps (.one h0 stepR_seq) (.pass (x := .code y) rfl (fun _ _ => .inl (by simp)) harr)⟩
theorem wpAt_block {id : Nat} {c : Code} (h : wpAt f P c (Exit.inBlock id Q) a w) : wpAt f P (Code.block id c) Q a w := by
  intro b k cs hro hb
  have h0 : (lone (b.atR a (.code (.block id c) :: k)) cs w).fenced P Fence.wide := calmW
  obtain ⟨e, a₁, w₁, hq, harr⟩ := h b (.inBlock id :: k) cs hro hb
  cases e with
  | normal => exact ⟨.normal, a₁, w₁, hq, .head h0 stepR_block (StepsIn.trans harr (.one calmW stepR_inBlock))⟩
  | exit id' =>
    by_cases hid : id' = id
    · simp only [Exit.inBlock, hid, if_true] at hq
      exact ⟨.normal, a₁, w₁, hq, .head h0 stepR_block (harr.1 k (by simp [exitTo, hid]))⟩
    · simp only [Exit.inBlock, hid, if_false] at hq
      have this : (id == id') = false := by simp; exact fun h => hid h.symm
      have hx : exitTo id' (.inBlock id :: k) = exitTo id' k := by simp [exitTo, this]
      exact ⟨.exit id', a₁, w₁, hq, fun k' hk => .head h0 stepR_block (harr.1 k' (by rw [hx]; exact hk)),
        fun hr' hk => let ⟨k₁, h1, h2⟩ := harr.2 hr' (by rw [hx]; exact hk); ⟨k₁, h1, .head h0 stepR_block h2⟩⟩
  | goto l =>
    have hx : gotoIn l (.inBlock id :: k) = gotoIn l k := by simp [gotoIn]
    exact ⟨_, a₁, w₁, hq, fun k' hk => .head h0 stepR_block (harr.1 k' (by rw [hx]; exact hk)),
      fun hr' hk => let ⟨k₁, h1, h2⟩ := harr.2 hr' (by rw [hx]; exact hk); ⟨k₁, h1, .head h0 stepR_block h2⟩⟩
  | ret => exact ⟨_, a₁, w₁, hq, .of_steps (.one h0 stepR_block) harr⟩
  | panic ch => exact ⟨_, a₁, w₁, hq, .of_steps (.one h0 stepR_block) harr⟩
  | outgrown => exact ⟨_, a₁, w₁, hq, .of_steps (.one h0 stepR_block) harr⟩
theorem calls_of_wpAt {f : FuncId} {fn : Func} {c : Code} {args : Array Value} {w : World} {R : Ending → World → Prop}
    (hf : P.funcs[f]? = some fn) (hb : fn.body = some c)
    (h : wpAt f P c (bodyPostM Fence.wide n P fn R) { tmps := args ++ Array.replicate (fn.ntmps - args.size) undef, defers := [] } w) : Calls P f args w R := by
  refine (callsIn_wide (n := n)).1 ⟨trivial, fun cs hr => ?_⟩
  let b : Frame := { (default : Frame) with fn := f, kind := .normal, roundOf := none }
  have henter : Frame.enter P f args .normal =
      b.atR { tmps := args ++ Array.replicate (fn.ntmps - args.size) undef, defers := [] } [.code c] := by
    simp [Frame.enter, Frame.atR, hf, hb, b]
  obtain ⟨e, a', w', hq, harr⟩ := h b [] cs rfl rfl
  rw [← henter] at harr
  cases e with
  | normal =>
    obtain ⟨e', w'', fr', hR, hs, hfn, hl⟩ := leaves_stepsInM a'.defers .returning w' { b.atR a' [] with mode := .returning } cs rfl rfl rfl hf rfl trivial hr hq
    exact ⟨e', w'', fr', hR, ComesIn.of_steps (StepsIn.trans harr (.one calmW (stepR_end rfl))) hs, hfn, hl⟩
  | ret =>
    obtain ⟨todo, hs₀⟩ := harr.1 rfl
    obtain ⟨e', w'', fr', hR, hs, hfn, hl⟩ := leaves_stepsInM a'.defers .returning w' { b.atR a' todo with mode := .returning } cs rfl rfl rfl hf rfl trivial hr hq
    exact ⟨e', w'', fr', hR, ComesIn.of_steps hs₀ hs, hfn, hl⟩
  | panic chain =>
    obtain ⟨todo, hs₀⟩ := harr
    obtain ⟨e', w'', fr', hR, hs, hfn, hl⟩ := leaves_stepsInM a'.defers (.panicking chain) w' { b.atR a' todo with mode := .panicking chain } cs rfl rfl rfl hf rfl trivial hr hq
    exact ⟨e', w'', fr', hR, ComesIn.of_steps hs₀ hs, hfn, hl⟩
  | exit id => exact hq.elim
  | goto l => exact hq.elim
  | outgrown => exact ⟨.outgrown, w', b, hq, harr.resolve_left (by simp [b]), rfl, trivial⟩
theorem wpAt_rangeFunc {g : Operand} {ps : Array Tmp} {assign body : Code}
    (h : ∃ (l : Nat) (mark : List Deferred) (w₁ : World) (d : Deferred) (w₁' : World) (f' : FuncId) (args : Array Value) (w₂ : World),
      (Instr.enterLoop f a.tmps ps assign body none).run P w = .ok (l, mark) w₁ ∧
      (resolve a.eval (rangeCall g l) 0).run P w₁ = .ok d w₁' ∧
      (invoke d.target d.args).run P w₁' = .ok (.enter f' args) w₂ ∧
      CallsIn Fence.wide n P f' args w₂ (rangePost Fence.wide n P l Q { a with defers := mark ++ a.defers })) :
    wpAt f P (Code.rangeFunc g ps assign body) Q a w := by
  intro b k cs hro hb
  obtain ⟨l, mark, w₁, d, w₁', f', args, w₂, he, hres, hinv, hF, hcall⟩ := h
  rw [← hro, ← hb] at he
  have henter := stepR_rangeFunc (P := P) (b := b) (a := a) (k := k) (cs := cs) (w := w) he hres hinv
  obtain ⟨e, w₃, fr, hR, hsteps, hfn, hleave⟩ := hcall (b.atR { a with defers := mark ++ a.defers } (.inRangeFunc l :: k) :: cs) (room_wide _)
  cases e with
  | outgrown =>
    obtain ⟨a₀, w₀, hq⟩ := hR
    exact ⟨.outgrown, a₀, w₀, hq, .inr (Outgrown.of_steps (.one henter) hsteps)⟩
  | returned v =>
    obtain ⟨jump, w₄, hend, hj⟩ := hR
    have sback : StepsIn (Machine.fenced P Fence.wide) P (lone (b.atR a (.code (.rangeFunc g ps assign body) :: k)) cs w) (lone (b.atR { a with defers := mark ++ a.defers } ((jump.map Item.code).toList ++ k)) cs w₄) := by
      refine .head calmW henter (StepsIn.trans hsteps (.head calmW ?_ (.one calmW (stepR_endRangeFunc hend))))
      rw [← finish_atR_inRangeFunc l v]; exact step_leave_returned hleave
    cases jump with
    | none => exact ⟨.normal, _, w₄, hj, sback⟩
    | some c =>
      obtain ⟨e', a'', w₅, hq, harr⟩ := hj b k cs hro trivial (room_wide _)
      exact ⟨e', a'', w₅, hq, .of_steps sback harr⟩
  | panicked chain =>
    refine ⟨.panic chain, _, w₃, hR, .inRangeFunc l :: k, .head calmW henter (StepsIn.trans hsteps (.one calmW ?_))⟩
    rw [← Frame.raise_atR]; exact step_leave_panicked hleave
def roundPostP (P : Program) (l : Nat) (R : Ending → World → Prop) : Exit → Act → World → Prop
  | .normal, _, w => ∃ v w', (Instr.endRound l none).run P w = .ok v w' ∧ R (.returned v) w'
  | .panic chain, a, w => a.defers = [] ∧ R (.panicked chain) w
  | _, _, _ => False
theorem roundIn_of_wpInP {l : Nat} {f : FuncId} {fn : Func} (hfn : P.funcs[f]? = some fn) {tmps : Array Value} {assign body : Code} {w : World} {R : Ending → World → Prop}
    (h : assign.wpIn (Fence.wide.inRound l) n P (Exit.then (fun a₁ w₁ => ∃ w₂, (Instr.beginRound l).run P w₁ = .ok () w₂ ∧ body.wpIn (Fence.wide.inRound l) n P (roundPostP P l R) a₁ w₂) (fun _ _ _ => False))
      { tmps := tmps, defers := [] } w) :
    RoundIn Fence.wide n P l f tmps assign body w R := by
  refine ⟨trivial, fun c cs hr => ?_⟩
  let b : Frame := { (default : Frame) with fn := f, kind := .normal, roundOf := some l }
  have hb0 : Frame.round l f tmps assign body .normal = b.atR { tmps := tmps, defers := [] } [.code assign, .beginRound, .code body] := by
    simp [Frame.round, Frame.atR, b]
  obtain ⟨e, a₁, w₁, hq, harr⟩ := h b [.beginRound, .code body] (c :: cs) rfl trivial (room_wide _)
  rw [← hb0] at harr
  cases e with
  | normal =>
    obtain ⟨w₂, hbr, hbody⟩ := hq
    have s1 : StepsIn (Machine.fenced P (Fence.wide.inRound l)) P (lone (b.atR a₁ [.beginRound, .code body]) (c :: cs) w₁) (lone (b.atR a₁ [.code body]) (c :: cs) w₂) :=
      .one calmW (stepR_beginRound rfl hbr)
    obtain ⟨e₂, a₂, w₃, hq₂, harr₂⟩ := hbody b [] (c :: cs) rfl trivial (room_wide _)
    cases e₂ with
    | normal =>
      obtain ⟨v, w₄, hend, hR⟩ := hq₂
      exact ⟨.returned v, w₄, hR, (StepsIn.trans harr s1).trans (StepsIn.trans harr₂ (.one calmW (stepR_round_end rfl rfl hend)))⟩
    | panic chain =>
      obtain ⟨hd, hR⟩ := hq₂
      obtain ⟨todo, hs⟩ := harr₂
      exact ⟨.panicked chain, w₃, hR, (StepsIn.trans harr s1).trans (StepsIn.trans hs (.one calmW (step_leave_panicked ⟨rfl, hd, fn, hfn⟩)))⟩
    | ret => exact hq₂.elim
    | exit id => exact hq₂.elim
    | goto t => exact hq₂.elim
    | outgrown => exact hq₂.elim
  | exit id => exact hq.elim
  | goto t => exact hq.elim
  | ret => exact hq.elim
  | panic chain => exact hq.elim
  | outgrown => exact hq.elim
end
structure KeepS (S : Nat → Prop) (W W' : World) : Prop where
  size : W.heap.size ≤ W'.heap.size
  same : ∀ k o, W.heap[k]? = some o → ¬ S k → W'.heap[k]? = some o
theorem KeepS.trans {S : Nat → Prop} {A B C : World} (h : KeepS S A B) (k : KeepS S B C) : KeepS S A C := ⟨Nat.le_trans h.size k.size, fun i o ho hs => k.same i o (h.same i o ho hs) hs⟩
theorem KeepS.of_chg {S : Nat → Prop} {A B : World} (h : Chg S A B) : KeepS S A B := ⟨h.size, fun _ _ ho hv => h.at ho hv⟩
theorem KeepS.mono {S S' : Nat → Prop} {A B : World} (h : KeepS S A B) (hs : ∀ k, S k → S' k) : KeepS S' A B := ⟨h.size, fun i o ho hn => h.same i o ho (fun e => hn (hs i e))⟩
theorem KeepS.put {S : Nat → Prop} {l : Nat} {A : World} {o' : Obj} (hv : S l) : KeepS S A (A.putObj l o') :=
  ⟨by simp, fun k o ho hn => (World.putObj_heap_other (fun e => hn (by subst e; exact hv))).trans ho⟩
def Grows (D D' : Nat → Prop) (n : Nat) : Prop := ∀ k, D' k → D k ∨ n ≤ k
def IterD {α : Type} (n : Nat) (g : Nat) (lb : Array Value) (encs : α → Array Value) (V0 : Nat → Prop) (xs : List α) (w : World) : Prop :=
  ∀ (l : Nat) (J : List α → (Nat → Prop) → World → Prop) (Jp : List PanicEntry → World → Prop) (W : World), Chg Nob w W → w.heap.size ≤ l → l < W.heap.size →
    (∀ pre D A, J pre D A → ∀ k, D k → k < A.heap.size) →
    (∀ pre D A B, J pre D A → Chg (fun k => W.heap.size ≤ k ∧ ¬ D k) A B → J pre D B) →
    (∀ pre x D W1, J pre D W1 → (pre ++ [x]) <+: xs → YieldAt Fence.wide (n - 1) Tryz.prog l (encs x) W1 fun e W' =>
      (e = .returned (.bool true) ∧ KeepS (fun k => k = l ∨ D k) W1 W' ∧ ∃ D', J (pre ++ [x]) D' W' ∧ Grows D D' W1.heap.size) ∨ (∃ ch, e = .panicked ch ∧ Jp ch W')) →
    J [] V0 W →
    CallsIn Fence.wide n Tryz.prog g (#[.func (.yield l) #[] #[]] ++ lb) W fun e W' => (∃ v, e = .returned v ∧ ∃ D, J xs D W') ∨ (∃ ch, e = .panicked ch ∧ Jp ch W')
def rPostD {α : Type} (D : Nat → Prop) (I : List α → (Nat → Prop) → World → Prop) (Ip : List PanicEntry → World → Prop) (xs : List α) (W : World) : Exit → Act → World → Prop
  | .normal, _, W' => KeepS D W W' ∧ ∃ D', I xs D' W' ∧ Grows D D' W.heap.size
  | .panic ch, a, W' => a.defers = [] ∧ KeepS D W W' ∧ Ip ch W'
  | _, _, _ => False
set_option maxHeartbeats 1000000 in
theorem range_iterD {α : Type} {f : FuncId} {fn : Func} (hfn : Tryz.prog.funcs[f]? = some fn) {n : Nat} {g : Operand} {ps : Array Tmp} {assign body : Code} {Q : Exit → Act → World → Prop} {a : Act} {w : World}
    {gf : Nat} {lb : Array Value} (hg : a.eval g = .func (.func gf) #[] lb) (eg : ∀ args w, (callFunc gf args).run Tryz.prog w = .ok (.enter gf args) w)
    {encs : α → Array Value} {V0 : Nat → Prop} {xs : List α} (hit : IterD n gf lb encs V0 xs w) (hps : ∀ x, (encs x).size = ps.size)
    (I : List α → (Nat → Prop) → World → Prop) (Ip : List PanicEntry → World → Prop) (hID : ∀ pre D A, I pre D A → ∀ k, D k → k < A.heap.size) (hI : ∀ pre D A B, I pre D A → Chg (fun k => w.heap.size ≤ k ∧ ¬ D k) A B → I pre D B) (h0 : I [] V0 w)
    (hround : ∀ (l : Nat) (pre : List α) (x : α) (D : Nat → Prop) (W : World), I pre D W → (pre ++ [x]) <+: xs → w.heap.size + 1 < W.heap.size → ¬ D w.heap.size → ¬ D (w.heap.size + 1) →
      assign.wpIn (Fence.wide.inRound l) (n - 1) Tryz.prog (Exit.then (fun a₁ w₁ => Chg Nob W w₁ ∧ ∀ w₂, Chg (At1 (w.heap.size + 1)) w₁ w₂ → body.wpIn (Fence.wide.inRound l) (n - 1) Tryz.prog (rPostD D I Ip (pre ++ [x]) w₂) a₁ w₂) (fun _ _ _ => False))
        { tmps := (ps.zip (encs x)).foldl (fun t (p, v) => t.setIfInBounds p v) a.tmps, defers := [] } W)
    (hdone : ∀ (D : Nat → Prop) (W : World), I xs D W → W.heap[w.heap.size]? = some (.deferred (some [])) → Q .normal { a with defers := { target := .collected w.heap.size, args := #[] } :: a.defers } W)
    (hpan : ∀ (ch : List PanicEntry) (W : World), Ip ch W → W.heap[w.heap.size]? = some (.deferred (some [])) → Q (.panic ch) { a with defers := { target := .collected w.heap.size, args := #[] } :: a.defers } W) :
    wpAt f Tryz.prog (Code.rangeFunc g ps assign body) Q a w := by
  have hV := hID [] V0 w h0
  refine wpAt_rangeFunc (n := n) ?_
  let rec0 : LoopState → Option Code → Loop := fun st pe => { state := st, pending := pe, fn := f, tmps := a.tmps, params := ps, assign, body, defers := w.heap.size }
  obtain ⟨W1, hW1⟩ : ∃ W1, (w.alloc (.deferred (some []))).alloc (.loop (rec0 .ready none)) = W1 := ⟨_, rfl⟩
  have hsz : W1.heap.size = w.heap.size + 2 := by rw [← hW1]; simp
  have hcW : Chg Nob w W1 := by rw [← hW1]; exact ((Chg.refl _ _).alloc _).alloc _
  have hL1 : W1.heap[w.heap.size + 1]? = some (.loop (rec0 .ready none)) := by
    rw [← hW1]
    have := World.alloc_heap_new (w.alloc (.deferred (some []))) (.loop (rec0 .ready none))
    rwa [World.size_alloc] at this
  have hD1 : W1.heap[w.heap.size]? = some (.deferred (some [])) := by
    rw [← hW1]
    exact ((Chg.refl Nob (w.alloc (.deferred (some [])))).alloc _).at (World.alloc_heap_new w _) (fun e => e)
  refine ⟨w.heap.size + 1, [{ target := .collected w.heap.size, args := #[] }], W1, { target := .fn (.func gf) lb, args := #[.func (.yield (w.heap.size + 1)) #[] #[]] }, W1, gf,
    #[.func (.yield (w.heap.size + 1)) #[] #[]] ++ lb, W1, ?_, ?_, ?_, ?_⟩
  · rw [← hW1]; exact run_enterLoop_outer _ _ _ _ _
  · simp only [resolve, hg]
    simp [go_sem]
  · simp [invoke, go_sem, eg]
  · refine (hit (w.heap.size + 1)
      (fun pre D W => I pre D W ∧ W.heap[w.heap.size + 1]? = some (.loop (rec0 .ready none)) ∧ W.heap[w.heap.size]? = some (.deferred (some [])) ∧ ¬ D w.heap.size ∧ ¬ D (w.heap.size + 1))
      (fun ch W => Ip ch W ∧ W.heap[w.heap.size]? = some (.deferred (some [])))
      W1 hcW (by omega) (by omega) (fun pre D A h => hID pre D A h.1) ?_ ?_ ⟨hI [] V0 w W1 h0 (hcW.any), hL1, hD1, fun e => by have := hV _ e; omega, fun e => by have := hV _ e; omega⟩).mono ?_
    · rintro pre D A B ⟨h1, h2, h3, h4, h5⟩ hs
      exact ⟨hI pre D A B h1 (hs.mono (fun k hk e => ⟨by have := e.1; omega, e.2⟩)), Chg.at hs h2 (fun e => by have := e.1; omega), Chg.at hs h3 (fun e => by have := e.1; omega), h4, h5⟩
    · rintro pre x D W ⟨hi, hl, hd, hn0, hn1⟩ hpre
      have hy := run_yield (P := Tryz.prog) (args := encs x) hl (hps x)
      refine ⟨f, _, assign, body, hy, roundIn_of_wpInP hfn ?_⟩
      have hWs : w.heap.size + 1 < W.heap.size := (Array.getElem?_eq_some_iff.1 hl).1
      refine wpIn_mono (hround _ pre x D W hi hpre hWs hn0 hn1) ?_
      intro e a₁ w₁ hq
      cases e with
      | normal =>
        obtain ⟨hk1, hbody⟩ := hq
        have hl1 := hk1.at hl (fun e => e)
        have hd1 := hk1.at hd (fun e => e)
        refine ⟨_, run_beginRound hl1 rfl, ?_⟩
        have hlt : w.heap.size + 1 < w₁.heap.size := (Array.getElem?_eq_some_iff.1 hl1).1
        have hc2 : Chg (At1 (w.heap.size + 1)) w₁ (w₁.putObj (w.heap.size + 1) (.loop { rec0 .ready none with state := .busy })) :=
          ⟨rfl, rfl, rfl, by simp, fun k _ hk => World.putObj_heap_other hk⟩
        have hl2 : (w₁.putObj (w.heap.size + 1) (.loop { rec0 .ready none with state := .busy })).heap[w.heap.size + 1]? = some (.loop { rec0 .ready none with state := .busy }) := World.putObj_heap_same hlt
        have hd2 := hc2.at hd1 (fun e => by have e : w.heap.size = w.heap.size + 1 := e; omega)
        refine wpIn_mono (hbody _ hc2) ?_
        intro e a3 W3 hp
        cases e with
        | normal =>
          obtain ⟨hk3, D', hi3, hg3⟩ := hp
          have hg3 : Grows D D' w₁.heap.size := fun k hk => (hg3 k hk).imp id (fun e => by simpa using e)
          have hl3 := hk3.same _ _ hl2 hn1
          have hd3 := hk3.same _ _ hd2 hn0
          refine ⟨_, _, run_endRound (P := Tryz.prog) none hl3, .inl ⟨rfl, ?_, D', ⟨?_, World.putObj_heap_same (Array.getElem?_eq_some_iff.1 hl3).1, (World.putObj_heap_other (by omega)).trans hd3, ?_, ?_⟩, ?_⟩⟩
          · exact ((KeepS.of_chg hk1.any).trans (KeepS.put (.inl rfl))).trans ((hk3.mono (fun _ h => .inr h)).trans (KeepS.put (.inl rfl)))
          · have hn1' : ¬ D' (w.heap.size + 1) := fun e => by
              rcases hg3 _ e with e | e
              · exact hn1 e
              · omega
            exact hI _ _ _ _ hi3 ⟨rfl, rfl, rfl, by simp, fun k _ hk => World.putObj_heap_other (fun e => hk (by subst e; exact ⟨by omega, hn1'⟩))⟩
          · intro e
            rcases hg3 _ e with e | e
            · exact hn0 e
            · omega
          · intro e
            rcases hg3 _ e with e | e
            · exact hn1 e
            · omega
          · intro k hk
            rcases hg3 k hk with e | e
            · exact .inl e
            · refine .inr ?_
              have := hk1.size
              omega
        | panic ch =>
          obtain ⟨hd, hk3, hi3⟩ := hp
          exact ⟨hd, .inr ⟨ch, rfl, hi3, hk3.same _ _ hd2 hn0⟩⟩
        | ret => exact hp.elim
        | exit id => exact hp.elim
        | goto t => exact hp.elim
        | outgrown => exact hp.elim
      | ret => exact hq
      | exit id => exact hq
      | goto t => exact hq
      | panic ch => exact hq
      | outgrown => exact hq
    · rintro e W2 (⟨v, rfl, D, hi, hl, hd, hn0, hn1⟩ | ⟨ch, rfl, hi, hd⟩)
      · refine ⟨none, _, run_endLoop (P := Tryz.prog) hl (by simp [rec0]), hdone D _ (hI _ _ _ _ hi ⟨rfl, rfl, rfl, by simp, fun k _ hk => World.putObj_heap_other (fun e => hk (by subst e; exact ⟨by omega, hn1⟩))⟩) ((World.putObj_heap_other (by omega)).trans hd)⟩
      · exact hpan ch W2 hi hd
theorem leaves_oneP {F : Fence} {n : Nat} {P : Program} {fn : Func} {tm : Array Value} {R : Ending → World → Prop} {D : Nat} {W : World} {ch : List PanicEntry} (hD : W.heap[D]? = some (.deferred (some [])))
    (h : ∀ W', Chg (At1 D) W W' → R (.panicked ch) W') : LeavesInM F n P fn tm R [{ target := .collected D, args := #[] }] (.panicking ch) W :=
  ⟨by simp, .inl ⟨D, _, rfl, run_takeDeferred hD, h _ ⟨rfl, rfl, rfl, by simp, fun k _ hk => World.putObj_heap_other hk⟩⟩⟩
end Go.Proofs.YtkgfdgfhpdhhaaaGreat
