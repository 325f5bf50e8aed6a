/- sextantref23.Parse. Condition: the bytes lie in the world. -/
import Derived.Test.YtickdmalkmgkiaaRinv
import Derived.BigQuiet
namespace Go.Proofs.Ytickdmalkmgkiaa
open Go.ChangeShapes Go.WideShapes Go.ChangeAt Go.RowKit

set_option maxRecDepth 100000 in
theorem results46 {B : Nat} {tm : Array Value} {w : World} {v c e0 : Value} (h2 : tm[2]? = some (.pointer (some ⟨B, 0, none⟩))) (h3 : tm[3]? = some e0) (hb : w.heap[B]? = some (.cells #[v, c] 24)) :
    (results Try.f46 tm).run Try.prog w = .ok (.tuple #[.agg #[v, c], e0]) w := by
  obtain ⟨c0, c1, _, _⟩ := cell_two hb
  simp [results, Try.results46, go_sem, h2, h3, c0, c1]

theorem bad46 {l : List UInt8} {w wr : World} {B : Nat} {tm : Array Value} (hno : NoTrail l) (hc : Chg Nob w wr) (hb : wr.heap[B]? = some (.cells #[.slice none 0 0, .int .i64 0] 24))
    (h2 : tm[2]? = some (.pointer (some ⟨B, 0, none⟩))) (h3 : tm[3]? = some (.int .i64 230)) :
    bodyPost Try.prog Try.f46 (ParsePost l w) Exit.ret { tmps := tm, defers := [] } wr :=
  bodyPost_ret (results46 h2 h3 hb) rfl ⟨hc, .inl ⟨hno, rfl⟩⟩
/-- The zero trail is stored over a zero trail. -/
theorem zero24 {w wr : World} {B : Nat} (hB : B = w.heap.size) (hc : Chg Nob w wr) {v c : Value} (hb : wr.heap[B]? = some (.cells #[v, c] 24)) :
    Chg Nob w ((wr.setCell ⟨B, 0, none⟩ (.slice none 0 0)).setCell ⟨B, 1, none⟩ (.int .i64 0)) ∧ ((wr.setCell ⟨B, 0, none⟩ (.slice none 0 0)).setCell ⟨B, 1, none⟩ (.int .i64 0)).heap[B]? = some (.cells #[.slice none 0 0, .int .i64 0] 24) :=
  ⟨(hc.setCell (p := ⟨B, 0, none⟩) (fun h => by have h : B < w.heap.size := h; omega) _).setCell (p := ⟨B, 1, none⟩) (fun h => by have h : B < w.heap.size := h; omega) _, block_two_set1 (block_two_set0 hb)⟩

/-- The steps: so many have been read. -/
def RStRel (B tb : Nat) (w : World) (l : List UInt8) (nv : Nat) (cv : Int) (i : Value) (wr : World) : Prop :=
  ∃ (M : List Step) (p : Nat) (v : Value) (bad : Bool), i = .int .i64 M.length ∧ M.length ≤ 100000 ∧ RState l nv cv M p bad ∧ RInv B tb w ⟨l.toArray⟩ p bad cv M v wr
theorem RState.lt {l : List UInt8} {nv : Nat} {cv : Int} {M : List Step} {p : Nat} {bad : Bool} (h : RState l nv cv M p bad) (hb : bad = false) : nv ≤ 100000 ∧ M.length ≤ nv := by
  rcases h with ⟨_, a, _, h1, _, h2, _⟩ | ⟨h, _⟩
  · exact ⟨h1, h2⟩
  · rw [hb] at h; cases h
theorem sset_chg (w : World) (sb j : Nat) (v : Value) : Chg (At1 sb) w (w.setCell ⟨sb, j, none⟩ v) := (Chg.refl (At1 sb) w).setCell (p := ⟨sb, j, none⟩) (fun _ => rfl) v
theorem sc_cells {w : World} {b : Nat} {ys : List Nat} (h : w.heap[b]? = some (.cells (sc ys) 83 (0, 0))) {j : Nat} (hj : j < 4) : ∃ u, w.cell? ⟨b, j, none⟩ = some u ∧ w.frozen? ⟨b, j, none⟩ = false := by
  obtain ⟨u, hu⟩ := sc_at (ys := ys) hj
  exact ⟨u, cell_row h j hu, by unfold World.frozen?; simp [h]⟩

set_option maxRecDepth 100000 in
set_option maxHeartbeats 4000000 in
theorem RParse_any (v : Value) (l : List UInt8) (w : World) (hb : Bytes w v l) :
    Calls Try.prog 46 #[v] w (ParsePost l w) := by
  have hc1 : Chg Nob w (w.alloc (.cells #[.slice none 0 0, .int .i64 0] 24)) := (Chg.refl _ _).alloc _
  have hB0 := heap_alloc_new w (.cells #[.slice none 0 0, .int .i64 0] 24)
  have hcv := (hb.chg hc1).conv
  have hl := hb.1
  obtain ⟨c0, c1, f0, f1⟩ := cell_two hB0
  have HB0 := Lib.hid hB0
  by_cases h4 : l.length < 4
  · have hno : NoTrail l := not_magic (fun e => by
      have := congrArg List.length e
      rw [List.length_take] at this
      have h4 : magic.length = 4 := rfl
      omega)
    have Hno := Lib.hid hno
    obtain ⟨ao, cp, rfl⟩ : ∃ ao cp, v = .slice ao l.length cp := by
      rcases hb.2 with ⟨rfl, rfl⟩ | ⟨a, cp, rfl, _⟩
      · exact ⟨none, 0, rfl⟩
      · exact ⟨_, cp, rfl⟩
    clear hno hb hcv hB0 hc1
    have h4i : ((l.length : Int) < 4) := by omega
    go_enter Try.func46, Try.ntmps46
    go_wp2_with fail
    exact bad46 Hno.out (Chg.alloc (Chg.refl Nob w) _) HB0.out rfl rfl
  · obtain ⟨bk, o, cp, rfl, hcp, hcells⟩ : ∃ bk o cp, v = .slice (some ⟨bk, o, none⟩) l.length cp ∧ l.length ≤ cp ∧ ∀ j u, (l.map bv)[j]? = some u → w.cell? ⟨bk, o + j, none⟩ = some u := by
      rcases hb.2 with ⟨rfl, rfl⟩ | ⟨⟨bk, o, spot⟩, cp, hv, hcp, hc⟩
      · simp at h4
      · have h0 := hc 0 _ (by rw [List.getElem?_map, List.getElem?_eq_getElem (by omega)]; rfl)
        have hs : spot = none := by simpa [Addr.add] using World.cell?_spot h0
        subst hs
        exact ⟨bk, o, cp, hv, hcp, fun j u hj => by have := hc j u hj; rwa [Go.WideShapes.add_plain] at this⟩
    have hb4 : Bytes w (.slice (some ⟨bk, o, none⟩) 4 cp) (l.take 4) := by
      have hlt : (l.take 4).length = 4 := by rw [List.length_take]; omega
      refine ⟨by omega, .inr ⟨⟨bk, o, none⟩, cp, by rw [hlt], by omega, fun j u hj => ?_⟩⟩
      rw [Go.WideShapes.add_plain]
      refine hcells j u ?_
      rw [List.getElem?_map, List.getElem?_take] at hj
      rw [List.getElem?_map]
      split at hj
      · exact hj
      · simp at hj
    have hcv4 := (hb4.chg hc1).conv
    have h4i : ¬ ((l.length : Int) < 4) := by omega
    clear hb hb4 hcells hB0 hc1
    cases hmag : (l.take 4 == [83, 88, 84, 49]) with
    | false =>
      have hno : NoTrail l := not_magic (fun e => by rw [beq_eq_false_iff_ne] at hmag; exact hmag e)
      have Hno := Lib.hid hno
      clear hno
      go_enter Try.func46, Try.ntmps46
      go_wp2_with fail
      exact bad46 Hno.out (Chg.alloc (Chg.refl Nob w) _) HB0.out rfl rfl
    | true =>
      have hpre : l = magic ++ l.drop 4 := by
        have h1 : l.take 4 = magic := by rw [beq_iff_eq] at hmag; exact hmag
        rw [← h1]
        exact (List.take_append_drop 4 l).symm
      have Hpre := Lib.hid hpre
      clear hpre
      have hsize : (⟨l.toArray⟩ : ByteArray).size = l.length := by show l.toArray.size = _; simp
      have hrg : isRg ((w.alloc (.cells #[.slice none 0 0, .int .i64 0] 24)).alloc (.cells #[.string ⟨l.toArray⟩, .int .i64 4, .bool false] 108)) (w.heap.size + 1) ⟨l.toArray⟩ 4 false :=
        ⟨by omega, by omega, by rw [show w.heap.size + 1 = (w.alloc (.cells #[.slice none 0 0, .int .i64 0] 24)).heap.size by simp]; exact heap_alloc_new _ _⟩
      have hB1 := ((Chg.refl Nob (w.alloc (.cells #[.slice none 0 0, .int .i64 0] 24))).alloc (.cells #[.string ⟨l.toArray⟩, .int .i64 4, .bool false] 108)).at HB0.out (fun e => e)
      have hcc : Chg Nob w ((w.alloc (.cells #[.slice none 0 0, .int .i64 0] 24)).alloc (.cells #[.string ⟨l.toArray⟩, .int .i64 4, .bool false] 108)) := ((Chg.refl _ _).alloc _).alloc _
      have hz1 : w.heap.size + 1 < ((w.alloc (.cells #[.slice none 0 0, .int .i64 0] 24)).alloc (.cells #[.string ⟨l.toArray⟩, .int .i64 4, .bool false] 108)).heap.size := by simp
      go_enter Try.func46, Try.ntmps46
      go_wp2_with fail
      clear hcv hcv4 c0 c1 f0 f1 HB0
      generalize ((w.alloc (.cells #[.slice none 0 0, .int .i64 0] 24)).alloc (.cells #[.string ⟨l.toArray⟩, .int .i64 4, .bool false] 108)) = W1 at *
      obtain ⟨B, hB⟩ : ∃ B, B = w.heap.size := ⟨_, rfl⟩
      rw [← hB] at hrg hB1 hz1 ⊢
      have HB := Lib.hid hB
      clear hB
      have h1 : Calls Try.prog 66 #[.pointer (some ⟨B + 1, 0, none⟩), .int .i64 100000] W1 (RgPost (B + 1) ⟨l.toArray⟩ 4 100000 false W1) := rget_any (B + 1) ⟨l.toArray⟩ 4 100000 false W1 hrg (by omega)
      (with_reducible refine h1.mono ?_)
      clear h1
      intro e w5 hp5
      obtain ⟨a, p, bad, ha, rfl, hr5, hc5, hh⟩ := head_first Hpre.out hp5
      have hB5 := hc5.at hB1 (fun e => by have e : B = B + 1 := e; omega)
      have hcc5 : Chg Nob w w5 := hcc.trans hc5 (fun i hi e => by have e : i = B + 1 := e; have := HB.out; omega)
      have hz5 : B + 1 < w5.heap.size := by have := hc5.size; omega
      have hw1 : wrap64 ((a : Int) - 1) = (a : Int) - 1 := by unfold wrap64; omega
      clear hp5 hrg hB1 hcc hz1 hc5
      have hr6 := hr5.chg ((Chg.refl Nob w5).alloc (.cells #[.slice none 0 0, .int .i64 ((a : Int) - 1)] 24)) (fun e => e)
      have hI6 : RInv B w5.heap.size w ⟨l.toArray⟩ p bad ((a : Int) - 1) [] (.slice none 0 0) (w5.alloc (.cells #[.slice none 0 0, .int .i64 ((a : Int) - 1)] 24)) :=
        ⟨((Chg.refl Nob w5).alloc _).at hB5 (fun e => e), hr6, heap_alloc_new w5 _, World.ownsRow_nil _ _ _ _, hcc5.alloc _, HB.out, hz5⟩
      have Hh := Lib.hid hh
      have HI6 := Lib.hid hI6
      clear hr5 hh hB5 hcc5 hI6
      go_wp2_with fail
      generalize (w5.alloc (.cells #[.slice none 0 0, .int .i64 ((a : Int) - 1)] 24)) = w6 at *
      generalize w5.heap.size = tb at *
      clear w5
      have h1 : Calls Try.prog 66 #[.pointer (some ⟨B + 1, 0, none⟩), .int .i64 100000] w6 (RgPost (B + 1) ⟨l.toArray⟩ p 100000 bad w6) := rget_any (B + 1) ⟨l.toArray⟩ p 100000 bad w6 hr6 (by omega)
      (with_reducible refine h1.mono ?_)
      clear h1 hr6
      intro e w7 hp7
      obtain ⟨nv, p1, bad1, hnv, rfl, hr7, hc7, hst⟩ := head_second Hh.out hp7
      have HI7 := Lib.hid (HI6.out.get hc7 hr7)
      have Hst := Lib.hid hst
      clear hp7 hr7 hc7 hst Hh HI6
      generalize hcv : (a : Int) - 1 = cv at *
      go_wp2_with fail
      go_loopw [7] (fun i wr => RStRel B tb w l nv cv i wr) (fun i _ => nv - (intOf i).toNat)
      case atStart => exact ⟨[], p1, _, bad1, rfl, by simp, Hst.out, HI7.out⟩
      case round =>
        clear HI7 Hst hw1 hcv
        clear p1 bad1
        obtain ⟨M, p, v1, bad, rfl, hM1, hst, hI⟩ := hrel
        have HS0 := Lib.hid hst
        have HI0 := Lib.hid hI
        obtain ⟨r0, r1, r2, _, _⟩ := cell_three hI.r.2.2
        by_cases hgo : M.length < nv ∧ bad = false
        · obtain ⟨hlt, rfl⟩ := hgo
          have hlti : ((M.length : Int) < (nv : Int)) := by omega
          have hnv2 := (hst.lt rfl).1
          have hsb : tb < wr.heap.size := (Array.getElem?_eq_some_iff.1 hI.t).1
          have hvb : ∀ k, v1.ownBlock = some k → k < wr.heap.size := fun k hk => (hI.row.lt k hk).2
          have Hvb := Lib.hid hvb
          have HK0 : Hid ((wr.alloc (.cells #[.int .i64 0, .int .i64 0, .int .i64 0, .int .i64 0] 83)).heap[wr.heap.size]? = some (.cells (sc []) 83 (0, 0))) := heap_alloc_new wr _
          have HI0' := Lib.hid (hI.nob ((Chg.refl Nob wr).alloc (.cells #[.int .i64 0, .int .i64 0, .int .i64 0, .int .i64 0] 83)))
          have HS0' := Lib.hid (step_start hst rfl hlt)
          clear hvb hI hst HS0 HI0
          obtain ⟨b0, hbad⟩ : ∃ b0, b0 = false := ⟨_, rfl⟩
          have HI0 := HI0'
          have HS0 := HS0'
          rw [← hbad] at HI0 HS0
          clear hbad HI0' HS0'
          obtain ⟨q0, hq0⟩ : ∃ q0, q0 = p := ⟨_, rfl⟩
          rw [← hq0] at HI0 HS0
          clear hq0
          go_wp2_with fail
          generalize (wr.alloc (.cells #[.int .i64 0, .int .i64 0, .int .i64 0, .int .i64 0] 83)) = w9 at *
          generalize wr.heap.size = sb at *
          clear r0 r1 r2
          have h1 : Calls Try.prog 66 #[.pointer (some ⟨B + 1, 0, none⟩), .int .i64 4001] _ (RgPost (B + 1) ⟨l.toArray⟩ q0 4001 b0 _) := rget_any (B + 1) ⟨l.toArray⟩ q0 4001 b0 _ HI0.out.r (by omega)
          (with_reducible refine h1.mono ?_)
          clear h1
          intro e w10 hp
          obtain ⟨y0, q1, b1, hy0, rfl, hr, hc, hst⟩ := get_step (ys := []) HS0.out (by simp) hp
          have HKx := Lib.hid (hc.at HK0.out (fun e => by have e : sb = B + 1 := e; omega))
          have HIx := Lib.hid (HI0.out.get hc hr)
          have HS1 := Lib.hid hst
          clear hp hr hc hst HI0 HS0 HK0
          have hw0 : wrap64 ((y0 : Int) - 1) = (y0 : Int) - 1 := by unfold wrap64; omega
          obtain ⟨u, z0, z1⟩ := sc_cells HKx.out (j := 0) (by decide)
          have HI1 := Lib.hid (HIx.out.other (sset_chg w10 sb 0 (.int .i64 ((y0 : Int) - 1))) hsb (fun k hk e => by have := Hvb.out k hk; omega))
          have HK1 : Hid ((w10.setCell ⟨sb, 0, none⟩ (.int .i64 ((y0 : Int) - 1))).heap[sb]? = some (.cells (sc [y0]) 83 (0, 0))) := sc_set (ys := []) HKx.out (by simp)
          clear HIx HKx
          go_wp2_with fail
          have h1 : Calls Try.prog 66 #[.pointer (some ⟨B + 1, 0, none⟩), .int .i64 4001] _ (RgPost (B + 1) ⟨l.toArray⟩ q1 4001 b1 _) := rget_any (B + 1) ⟨l.toArray⟩ q1 4001 b1 _ HI1.out.r (by omega)
          (with_reducible refine h1.mono ?_)
          clear h1 z0 z1
          intro e w11 hp
          obtain ⟨y1, q2, b2, hy1, rfl, hr, hc, hst⟩ := get_step (ys := [y0]) HS1.out (by simp) hp
          have HKx := Lib.hid (hc.at HK1.out (fun e => by have e : sb = B + 1 := e; omega))
          have HIx := Lib.hid (HI1.out.get hc hr)
          have HS2 := Lib.hid hst
          clear hp hr hc hst HI1 HS1 HK1
          have hw1 : wrap64 ((y1 : Int) - 1) = (y1 : Int) - 1 := by unfold wrap64; omega
          obtain ⟨u, z0, z1⟩ := sc_cells HKx.out (j := 1) (by decide)
          have HI2 := Lib.hid (HIx.out.other (sset_chg w11 sb 1 (.int .i64 ((y1 : Int) - 1))) hsb (fun k hk e => by have := Hvb.out k hk; omega))
          have HK2 : Hid ((w11.setCell ⟨sb, 1, none⟩ (.int .i64 ((y1 : Int) - 1))).heap[sb]? = some (.cells (sc [y0, y1]) 83 (0, 0))) := sc_set (ys := [y0]) HKx.out (by simp)
          clear HIx HKx
          go_wp2_with fail
          have h1 : Calls Try.prog 66 #[.pointer (some ⟨B + 1, 0, none⟩), .int .i64 4001] _ (RgPost (B + 1) ⟨l.toArray⟩ q2 4001 b2 _) := rget_any (B + 1) ⟨l.toArray⟩ q2 4001 b2 _ HI2.out.r (by omega)
          (with_reducible refine h1.mono ?_)
          clear h1 z0 z1
          intro e w12 hp
          obtain ⟨y2, q3, b3, hy2, rfl, hr, hc, hst⟩ := get_step (ys := [y0, y1]) HS2.out (by simp) hp
          have HKx := Lib.hid (hc.at HK2.out (fun e => by have e : sb = B + 1 := e; omega))
          have HIx := Lib.hid (HI2.out.get hc hr)
          have HS3 := Lib.hid hst
          clear hp hr hc hst HI2 HS2 HK2
          have hw2 : wrap64 ((y2 : Int) - 1) = (y2 : Int) - 1 := by unfold wrap64; omega
          obtain ⟨u, z0, z1⟩ := sc_cells HKx.out (j := 2) (by decide)
          have HI3 := Lib.hid (HIx.out.other (sset_chg w12 sb 2 (.int .i64 ((y2 : Int) - 1))) hsb (fun k hk e => by have := Hvb.out k hk; omega))
          have HK3 : Hid ((w12.setCell ⟨sb, 2, none⟩ (.int .i64 ((y2 : Int) - 1))).heap[sb]? = some (.cells (sc [y0, y1, y2]) 83 (0, 0))) := sc_set (ys := [y0, y1]) HKx.out (by simp)
          clear HIx HKx
          go_wp2_with fail
          have h1 : Calls Try.prog 66 #[.pointer (some ⟨B + 1, 0, none⟩), .int .i64 4001] _ (RgPost (B + 1) ⟨l.toArray⟩ q3 4001 b3 _) := rget_any (B + 1) ⟨l.toArray⟩ q3 4001 b3 _ HI3.out.r (by omega)
          (with_reducible refine h1.mono ?_)
          clear h1 z0 z1
          intro e w13 hp
          obtain ⟨y3, q4, b4, hy3, rfl, hr, hc, hst⟩ := get_step (ys := [y0, y1, y2]) HS3.out (by simp) hp
          have HKx := Lib.hid (hc.at HK3.out (fun e => by have e : sb = B + 1 := e; omega))
          have HIx := Lib.hid (HI3.out.get hc hr)
          have HS4 := Lib.hid hst
          clear hp hr hc hst HI3 HS3 HK3
          have hw3 : wrap64 ((y3 : Int) - 1) = (y3 : Int) - 1 := by unfold wrap64; omega
          obtain ⟨u, z0, z1⟩ := sc_cells HKx.out (j := 3) (by decide)
          have HI4 := Lib.hid (HIx.out.other (sset_chg w13 sb 3 (.int .i64 ((y3 : Int) - 1))) hsb (fun k hk e => by have := Hvb.out k hk; omega))
          have HK4 : Hid ((w13.setCell ⟨sb, 3, none⟩ (.int .i64 ((y3 : Int) - 1))).heap[sb]? = some (.cells (sc [y0, y1, y2, y3]) 83 (0, 0))) := sc_set (ys := [y0, y1, y2]) HKx.out (by simp)
          clear HIx HKx
          have x0 := cell_row HK4.out 0 (v := .int .i64 ((y0 : Int) - 1)) rfl
          have x1 := cell_row HK4.out 1 (v := .int .i64 ((y1 : Int) - 1)) rfl
          have x2 := cell_row HK4.out 2 (v := .int .i64 ((y2 : Int) - 1)) rfl
          have x3 := cell_row HK4.out 3 (v := .int .i64 ((y3 : Int) - 1)) rfl
          obtain ⟨t0, t1, t2, t3⟩ := cell_two HI4.out.t
          have hPn := HI4.out.nob ((Chg.refl Nob _).alloc (.cells #[.int .i64 ((y0 : Int) - 1), .int .i64 ((y1 : Int) - 1), .int .i64 ((y2 : Int) - 1), .int .i64 ((y3 : Int) - 1)] 83))
          have hnew := heap_alloc_new (w13.setCell ⟨sb, 3, none⟩ (.int .i64 ((y3 : Int) - 1))) (.cells #[.int .i64 ((y0 : Int) - 1), .int .i64 ((y1 : Int) - 1), .int .i64 ((y2 : Int) - 1), .int .i64 ((y3 : Int) - 1)] 83)
          obtain ⟨v', w', hap, hown, hgr⟩ := append_step (x := ((y0 : Int) - 1, (y1 : Int) - 1, (y2 : Int) - 1, (y3 : Int) - 1)) hPn.row (by have := (Array.getElem?_eq_some_iff.1 hPn.res).1; omega) (by omega) (fun j u hj => cell_row hnew j (by simpa [scells] using hj))
          obtain ⟨ao', cp', rfl⟩ := ownsRow_shape hown
          have hc7 : Chg (fun k => v1.ownBlock = some k) _ w' := (Chg.refl _ _).grown hgr (fun k hk _ => hk)
          have hne := ownsRow_ne_type hPn.row hPn.t (by decide)
          have ht7 := hc7.at hPn.t (fun e => (hne _ e).2 rfl)
          obtain ⟨g0, g1, f0, f1⟩ := cell_two ht7
          have HP8 := Lib.hid (hPn.app hown hgr)
          rw [World.size_setCell] at hap
          have Hap := Lib.hid hap
          have hnx := step_done HS4.out
          have Hnx := Lib.hid hnx
          clear hnx HK4 HI4 hPn hnew hown hgr hc7 hne ht7 hap HS4
          go_wp2_with (refine wpList_append_known rfl _ _ 22 22 rfl _ _ rfl rfl _ w' Hap.out ?_)
          go_roundw
          case rel => exact ⟨M ++ [((y0 : Int) - 1, (y1 : Int) - 1, (y2 : Int) - 1, (y3 : Int) - 1)], q4, _, b4, by rw [List.length_append]; rfl, by rw [List.length_append]; simp; omega, Hnx.out, HP8.out⟩
          case measure => simp [intOf]; omega
        · have hM9 : M.length ≤ 9223372036854775807 := by omega
          obtain ⟨ao', cp', rfl, htr⟩ := trail_of_row hI.row hM9
          have Htr := Lib.hid htr
          obtain ⟨t0, t1, t2, t3⟩ := cell_two hI.t
          clear hI hst htr
          have hmay := tmay_any ao' cp' cv M wr Htr.out
          by_cases hlt : M.length < nv
          · have hbt : bad = true := by
              cases hb : bad with
              | true => rfl
              | false => exact absurd ⟨hlt, hb⟩ hgo
            subst hbt
            have hlti : ((M.length : Int) < (nv : Int)) := by omega
            have Hno := Lib.hid (state_end HS0.out (fun h => by cases h) (.inl rfl))
            go_wp2_with fail
            (with_reducible refine hmay.mono ?_)
            clear hmay
            rintro e w8 ⟨rfl, hc8⟩
            have HI8 := Lib.hid (HI0.out.nob hc8)
            obtain ⟨s0, s1, s2, _, _⟩ := cell_three HI8.out.r.2.2
            obtain ⟨k0, k1, k2, k3⟩ := cell_two HI8.out.res
            go_wp2_with fail
            obtain ⟨q1, q2⟩ := zero24 HB.out HI8.out.chg HI8.out.res
            exact bad46 Hno.out q1 q2 rfl rfl
          · have hlti : ¬ ((M.length : Int) < (nv : Int)) := by omega
            cases hbb : bad with
            | true =>
              subst hbb
              have Hno := Lib.hid (state_end HS0.out (fun h => by cases h) (.inl rfl))
              go_wp2_with fail
              (with_reducible refine hmay.mono ?_)
              clear hmay
              rintro e w8 ⟨rfl, hc8⟩
              have HI8 := Lib.hid (HI0.out.nob hc8)
              obtain ⟨s0, s1, s2, _, _⟩ := cell_three HI8.out.r.2.2
              obtain ⟨k0, k1, k2, k3⟩ := cell_two HI8.out.res
              obtain ⟨t0, t1, t2, t3⟩ := cell_two HI8.out.t
              go_wp2_with fail
              obtain ⟨q1, q2⟩ := zero24 HB.out HI8.out.chg HI8.out.res
              exact bad46 Hno.out q1 q2 rfl rfl
            | false =>
              subst hbb
              have HMn : Hid (M.length = nv) := by show _ = _; have := (HS0.out.lt rfl).2; omega
              have hple := HI0.out.r.1
              by_cases hpl : p = l.length
              · subst hpl
                cases hm : mayBe cv M with
                | false =>
                  have Hno := Lib.hid (state_end HS0.out (fun _ => HMn.out) (.inr (.inr hm)))
                  rw [hm] at hmay
                  go_wp2_with fail
                  (with_reducible refine hmay.mono ?_)
                  clear hmay
                  rintro e w8 ⟨rfl, hc8⟩
                  have HI8 := Lib.hid (HI0.out.nob hc8)
                  obtain ⟨s0, s1, s2, _, _⟩ := cell_three HI8.out.r.2.2
                  obtain ⟨k0, k1, k2, k3⟩ := cell_two HI8.out.res
                  obtain ⟨t0, t1, t2, t3⟩ := cell_two HI8.out.t
                  go_wp2_with fail
                  obtain ⟨q1, q2⟩ := zero24 HB.out HI8.out.chg HI8.out.res
                  exact bad46 Hno.out q1 q2 rfl rfl
                | true =>
                  have hgood := state_good HS0.out rfl HMn.out (by rw [List.drop_length])
                  have Hgood := Lib.hid hgood
                  clear hgood
                  rw [hm] at hmay
                  go_wp2_with fail
                  (with_reducible refine hmay.mono ?_)
                  clear hmay
                  rintro e w8 ⟨rfl, hc8⟩
                  have HI8 := Lib.hid (HI0.out.nob hc8)
                  obtain ⟨s0, s1, s2, _, _⟩ := cell_three HI8.out.r.2.2
                  obtain ⟨k0, k1, k2, k3⟩ := cell_two HI8.out.res
                  obtain ⟨t0, t1, t2, t3⟩ := cell_two HI8.out.t
                  go_wp2_with fail
                  have hB := HB.out
                  have s1 := ((Chg.refl (At1 B) w8).setCell (p := ⟨B, 0, none⟩) (fun _ => rfl) (.slice ao' M.length cp')).setCell (p := ⟨B, 1, none⟩) (fun _ => rfl) (.int .i64 cv)
                  have b1 := block_two_set1 (u := .int .i64 cv) (block_two_set0 (u := .slice ao' M.length cp') HI8.out.res)
                  have r1 := ownsRow_chg HI8.out.row s1 (fun k hk e => (ownsRow_ne_type HI8.out.row HI8.out.res (by decide) k hk).2 e)
                  obtain ⟨ao3, cp3, hsl, htr⟩ := trail_of_row r1 hM9
                  cases hsl
                  exact bodyPost_ret (results46 rfl rfl b1) rfl ⟨HI8.out.chg.trans s1 (fun i hi e => by have e : i = B := e; omega), .inr ⟨_, M, _, cv, hm, Hgood.out, rfl, htr⟩⟩
              · have hpe : ((p : Int) == (l.length : Int)) = false := by rw [beq_eq_false_iff_ne]; omega
                have Hno := Lib.hid (state_end HS0.out (fun _ => HMn.out) (.inr (.inl (fun e => by
                  have := congrArg List.length e
                  rw [List.length_drop] at this
                  simp at this
                  omega))))
                go_wp2_with fail
                (with_reducible refine hmay.mono ?_)
                clear hmay
                rintro e w8 ⟨rfl, hc8⟩
                have HI8 := Lib.hid (HI0.out.nob hc8)
                obtain ⟨s0, s1, s2, _, _⟩ := cell_three HI8.out.r.2.2
                obtain ⟨k0, k1, k2, k3⟩ := cell_two HI8.out.res
                obtain ⟨t0, t1, t2, t3⟩ := cell_two HI8.out.t
                go_wp2_with fail
                obtain ⟨q1, q2⟩ := zero24 HB.out HI8.out.chg HI8.out.res
                exact bad46 Hno.out q1 q2 rfl rfl
end Go.Proofs.Ytickdmalkmgkiaa
