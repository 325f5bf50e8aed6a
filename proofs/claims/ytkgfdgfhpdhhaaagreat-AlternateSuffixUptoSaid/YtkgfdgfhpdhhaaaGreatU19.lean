/- Parts of the walks and of the plain theory: The law's little: is an automaton small enough on a word? Conditions: both lie in the world, they are of no bulk beyond bounds. -/
import Derived.Test.YtkgfdgfhpdhhaaaGreatU15
import Derived.Test.YtkgfdgfhpdhhaaaGreatU18
import Derived.Test.YtkgfdgfhpdhhaaaGreatU01
import Derived.ChangeSlices
import Derived.ChangeSame
import Derived.Test.YtkgfdgfhpdhhaaaGreatU17
import Derived.Deep.DeepCutAuto
import Derived.Test.YtkgfdgfhpdhhaaaGreatU12
import Derived.Test.YtkgfdgfhpdhhaaaGreatU09
namespace Go.Proofs.YtkgfdgfhpdhhaaaGreat
open Go.ChangeShapes Go.WideShapes Go.RowKit
attribute [local go_sem] Oper.semAt_some
def littleB (S : List Sti) (np nl : Nat) : Bool := decide ((S.length + sumN S) * (np + nl) ≤ 200000)
section
variable {w : World} {ai as' ap al : Option Addr} {ci cs cp cl : Nat} {I : List (List Int)} {S : List Sti} {np nl : Nat}
set_option maxRecDepth 100000 in
set_option maxHeartbeats 8000000 in
theorem little_any (hS : S.length ≤ 1100000) (k : SRow w as' S) (hl : np + nl ≤ 1100000) (hsum : S.length + sumN S ≤ 2000000000000) :
    Calls Tryz.prog 13 #[.agg #[.slice ai I.length ci, .slice as' S.length cs], .agg #[.slice ap np cp, .slice al nl cl]] w fun e w' => e = .returned (.bool (littleB S np nl)) ∧ Chg Nob w w' := by
  obtain ⟨X, hX, hcX, hb0, hb1, hsX⟩ : ∃ X, X = (w.alloc (.cells #[.slice ai I.length ci, .slice as' S.length cs] 38)).alloc (.cells #[.slice ap np cp, .slice al nl cl] 28) ∧ Chg Nob w X ∧ X.heap[w.heap.size]? = some (.cells #[.slice ai I.length ci, .slice as' S.length cs] 38 (0, 0)) ∧ X.heap[w.heap.size + 1]? = some (.cells #[.slice ap np cp, .slice al nl cl] 28 (0, 0)) ∧ X.heap.size = w.heap.size + 2 := by
    have h1 := heap_alloc_new (w.alloc (.cells #[.slice ai I.length ci, .slice as' S.length cs] 38)) (.cells #[.slice ap np cp, .slice al nl cl] 28)
    rw [World.size_alloc] at h1
    exact ⟨_, rfl, ((Chg.refl _ _).alloc _).alloc _, ((Chg.refl Nob _).alloc _).at (heap_alloc_new w _) (fun e => e), h1, by rw [World.size_alloc, World.size_alloc]⟩
  obtain ⟨c0, c1, _⟩ := cell_two hb0
  obtain ⟨d0, d1, _⟩ := cell_two hb1
  have HcX := Lib.hid hcX
  have HS := Lib.hid (k.nob hcX)
  have HB : Hid (∀ W, Chg Nob X W → (W.cell? ⟨w.heap.size, 0, none⟩ = some (.slice ai I.length ci) ∧ W.cell? ⟨w.heap.size, 1, none⟩ = some (.slice as' S.length cs)) ∧ W.cell? ⟨w.heap.size + 1, 0, none⟩ = some (.slice ap np cp) ∧ W.cell? ⟨w.heap.size + 1, 1, none⟩ = some (.slice al nl cl)) := (show ∀ W, Chg Nob X W → (_ ∧ _) ∧ _ ∧ _ from fun W hW => ⟨⟨hW.cell' c0 (fun e => e), hW.cell' c1 (fun e => e)⟩, hW.cell' d0 (fun e => e), hW.cell' d1 (fun e => e)⟩)
  have Hsum := Lib.hid hsum
  rw [hX] at c0 c1 d0 d1
  clear k hb0 hb1 hcX hsX hsum
  go_enter Tryz.func13, Tryz.ntmps13
  go_wp2_with fail
  rw [← hX]
  clear hX c0 c1 d0 d1
  go_loopw [5, 6] (fun nv iv wr => ∃ i n : Nat, iv = .int .i64 (i : Int) ∧ nv = .int .i64 (n : Int) ∧ i ≤ S.length ∧ Hid (n = S.length + sumN (S.take i)) ∧ Hid (Chg Nob X wr)) (fun _ iv _ => S.length - (intOf iv).toNat)
  case atStart => exact ⟨0, S.length, rfl, rfl, Nat.zero_le _, (show S.length = S.length + sumN (S.take 0) by rw [List.take_zero]; rfl), Chg.refl _ _⟩
  case round =>
    obtain ⟨i, n, rfl, rfl, hi, Hn, Hc⟩ := hrel
    obtain ⟨⟨c0, c1⟩, d0, d1⟩ := HB.out wr Hc.out
    have hle : ∀ i, sumN (S.take i) ≤ sumN S := fun i => by
      have e : sumN S = sumN (S.take i) + sumN (S.drop i) := by
        unfold sumN
        rw [← List.sum_append, ← List.map_append, List.take_append_drop]
      omega
    by_cases hlt : i < S.length
    · obtain ⟨s, hs⟩ : ∃ s, S[i]? = some s := ⟨_, List.getElem?_eq_getElem hlt⟩
      obtain ⟨b, o, am, cm, rfl, hf, hmv, hml, hmr⟩ := HS.out i s hs
      have hii : (i : Int) < (S.length : Int) := by omega
      have hi0 : (0 : Int) ≤ (i : Int) := by omega
      have hmv2 := Hc.out.cell' hmv (fun e => e)
      have Hn2 : Hid (n + s.moves.length = S.length + sumN (S.take (i + 1))) := (show n + s.moves.length = _ by rw [sumN_take S hs, Hn.out]; omega)
      have hnb : n + s.moves.length ≤ 2000000000000 := by have := hle (i + 1); have := Hn2.out; have := Hsum.out; omega
      clear hf hmv hmr hs hle
      go_wp2_with fail
      go_roundw
      case rel => exact ⟨i + 1, n + s.moves.length, by go_num, by go_num, by omega, Hn2, Hc⟩
      case measure => simp [intOf]; omega
    · have hie : i = S.length := by omega
      have hii : ¬ (i : Int) < (S.length : Int) := by omega
      have hiid : decide ((i : Int) < (S.length : Int)) = false := decide_eq_false hii
      have hiin : decide (i < S.length) = false := decide_eq_false hlt
      have hnS : n = S.length + sumN S := by have h1 := Hn.out; rw [hie, List.take_length] at h1; exact h1
      have hnb : n ≤ 2000000000000 := by have := Hsum.out; omega
      have Hr : Hid (littleB S np nl = decide ((n : Int) * ((np : Int) + (nl : Int)) ≤ 200000)) := (show _ = _ by
        unfold littleB
        rw [← hnS]
        refine decide_eq_decide.2 ?_
        rw [← Int.natCast_add, ← Int.natCast_mul]
        omega)
      have hmul : (n : Int) * ((np : Int) + (nl : Int)) ≤ 2200000000000000000 := by
        have h1 : n * (np + nl) ≤ 2000000000000 * 1100000 := Nat.mul_le_mul hnb hl
        rw [← Int.natCast_add, ← Int.natCast_mul]
        omega
      have hmul0 : (0 : Int) ≤ (n : Int) * ((np : Int) + (nl : Int)) := by
        rw [← Int.natCast_add, ← Int.natCast_mul]
        omega
      clear hle hie hnS
      go_wp2_with fail
      go_ret
      exact ⟨by rw [Hr.out]; rfl, HcX.out.trans1 Hc.out⟩
end
end Go.Proofs.YtkgfdgfhpdhhaaaGreat
namespace Go.Proofs.YtkgfdgfhpdhhaaaGreat
open Go.ChangeShapes Go.WideShapes Go.ChangeAt Go.RowKit
open Go.Proofs.YtkgfdgfhpdhhaaaGreat.Rows (uptoBulk uptoBulkAll)
section
variable {H : Type}
theorem bulk_pos (d : DataW H) : 1 ≤ uptoBulk d := by
  cases d with
  | lit l => cases l <;> simp [uptoBulk]
  | nil => simp [uptoBulk]
  | ptr d => simp [uptoBulk]
  | slice e s => simp [uptoBulk]
  | agg p => simp [uptoBulk]
  | iface t d => simp [uptoBulk]
  | map e => simp [uptoBulk]
  | held h => simp [uptoBulk]
theorem bulk_len : ∀ l : List (DataW H), l.length ≤ uptoBulkAll l
  | [] => Nat.zero_le _
  | d :: l => by
    have h1 := bulk_len l
    have h2 := bulk_pos d
    rw [uptoBulkAll, List.length_cons]
    omega
theorem bulk_mem : ∀ {l : List (DataW H)} {d : DataW H}, d ∈ l → uptoBulk d ≤ uptoBulkAll l
  | a :: l, d, h => by
    rw [uptoBulkAll]
    rcases List.mem_cons.1 h with rfl | h
    · omega
    · have := bulk_mem h; omega
end
section
variable {H : Type} {enc : TypeId × Value → H} {W : World}
theorem open_iints {fuel : Nat} {c : Value} {x : DataW H × List MemPlace} (hf : DataW.trod enc Tryz.prog W 0 (fun _ => true) true fuel 73 [c] = some x) (hb : uptoBulk x.1 ≤ 1048576) :
    ∃ a l cp, c = .slice a l.length cp ∧ l.length ≤ 1048576 ∧ IRow W a l := by
  rcases open_ints Tryz.underlying73 Tryz.underlying3 (by kernel_rfl) hf with ⟨hcs, _⟩ | ⟨a, len', cap', zs, hcs, _, hl, hm, hz, hx, hc, _⟩
  · simp at hcs
    exact ⟨none, [], 0, hcs, Nat.zero_le _, fun j x h => by simp at h⟩
  · simp at hcs hz
    have hlen : (zs.take len').length = len' := by rw [List.length_take]; omega
    have hbd : len' ≤ 1048576 := by
      rw [hx] at hb
      simp only [uptoBulk] at hb
      have h1 := bulk_len (lits (H := H) .i64 (zs.take len'))
      have h2 : (lits (H := H) .i64 (zs.take len')).length = len' := by simp only [lits, List.length_map]; exact hlen
      omega
    refine ⟨some a, zs.take len', cap', by rw [hlen]; exact hcs, by omega, fun j x hj => ⟨a, rfl, ?_⟩⟩
    have hj1 : j < len' := by
      have := (List.getElem?_eq_some_iff.1 hj).1
      omega
    rw [List.getElem?_take, if_pos hj1] at hj
    have h2 := hc j (by omega)
    rw [List.getD_eq_getElem?_getD, hj] at h2
    exact h2
theorem u64_ok {n : Int} (h : (Lit.int .u64 n).wf = true) : okU n := by
  have := bounds_u64 h
  exact ⟨this.1, by omega⟩
def okM (m : Mvi) : Prop := okU m.yes ∧ okU m.no
set_option maxRecDepth 100000 in
theorem open_move {fuel : Nat} {cs : List Value} {x : DataW H × List MemPlace} (h : DataW.trod enc Tryz.prog W 0 (fun _ => true) true fuel 75 cs = some x) (hb : uptoBulk x.1 ≤ 1048576) :
    ∃ m at' ct, cs = [.int .u64 m.yes, .int .u64 m.no, .slice at' m.to.length ct] ∧ m.to.length ≤ 1048576 ∧ IRow W at' m.to ∧ okM m := by
  have c75 : Tryz.prog.cellsOf 75 = 3 := by kernel_rfl
  have c72 : Tryz.prog.cellsOf 72 = 2 := by kernel_rfl
  have c73 : Tryz.prog.cellsOf 73 = 1 := by kernel_rfl
  have c53 : Tryz.prog.cellsOf 53 = 1 := by kernel_rfl
  obtain ⟨y0, y1, n, hx, hl, h0, h1⟩ := trod_struct2 Tryz.underlying75 h
  rw [c75] at hl
  match cs, hl with
  | [v0, v1, v2], _ =>
    simp only [c72, c73, List.drop_zero, List.drop_succ_cons, List.take_succ_cons, List.take_zero] at h0 h1
    obtain ⟨z0, z1, n', hx0, _, g0, g1⟩ := trod_struct2 Tryz.underlying72 h0
    simp only [c53, List.drop_zero, List.drop_succ_cons, List.take_succ_cons, List.take_zero] at g0 g1
    obtain ⟨yes, e0, _, w0⟩ := DataW.trod_int Tryz.underlying53 g0
    obtain ⟨no, e1, _, w1⟩ := DataW.trod_int Tryz.underlying53 g1
    simp at e0 e1
    subst e0 e1
    obtain ⟨a, l, cp, rfl, hll, hr⟩ := open_iints h1 (by rw [hx] at hb; simp only [uptoBulk, uptoBulkAll] at hb; omega)
    exact ⟨⟨yes, no, l⟩, a, cp, rfl, hll, hr, u64_ok w0, u64_ok w1⟩
theorem spot_none {a : Addr} {n : Nat} {cs : List Value} {e : Nat} (he : 0 < e) (hcs : W.cells? 0 (a.add (n * e)) e = some cs) (hn : n = 0) : a.spot = none := by
  subst hn
  obtain ⟨_, hcl, hat⟩ := World.cells?_some hcs
  have h0 := hat 0 he
  rw [List.getElem?_eq_getElem (by omega)] at h0
  simpa [Addr.add] using World.cell?_spot h0
set_option maxRecDepth 100000 in
theorem open_moves {fuel : Nat} {c : Value} {x : DataW H × List MemPlace} (hf : DataW.trod enc Tryz.prog W 0 (fun _ => true) true fuel 67 [c] = some x) (hb : uptoBulk x.1 ≤ 1048576) :
    ∃ a ms cp, c = .slice a ms.length cp ∧ ms.length ≤ 1048576 ∧ MRow W a ms ∧ ∀ m ∈ ms, okM m := by
  have c75 : Tryz.prog.cellsOf 75 = 3 := by kernel_rfl
  rcases Go.Deep.open_slice Tryz.underlying67 hf with ⟨hcs, _⟩ | ⟨a, len, cap, m, n, D, Pl, hcs, _, hl, hm, hmm, hx, hi⟩
  · simp at hcs
    exact ⟨none, [], 0, hcs, Nat.zero_le _, fun j m h => by simp at h, fun m h => by simp at h⟩
  · simp at hcs hmm
    subst hcs
    rw [hx] at hb
    simp only [uptoBulk] at hb
    have hlen : len ≤ 1048576 := by
      have h1 := bulk_len ((List.range len).map D)
      rw [List.length_map, List.length_range] at h1
      omega
    have hD : ∀ i, i < len → uptoBulk (D i) ≤ 1048576 := fun i hi => by
      have h1 := bulk_mem (d := D i) (l := (List.range len).map D) (List.mem_map.2 ⟨i, List.mem_range.2 hi, rfl⟩)
      omega
    obtain ⟨ms, hml, hP⟩ := list_of (P := fun i (m : Mvi) => ∃ b o at' ct, a = ⟨b, o, none⟩ ∧ W.cell? ⟨b, o + i * 3, none⟩ = some (.int .u64 m.yes) ∧ W.cell? ⟨b, o + i * 3 + 1, none⟩ = some (.int .u64 m.no) ∧ W.cell? ⟨b, o + i * 3 + 2, none⟩ = some (.slice at' m.to.length ct) ∧ m.to.length ≤ 1048576 ∧ IRow W at' m.to ∧ okM m) len (fun i hil => by
      obtain ⟨cs', hc, ht⟩ := hi i (by omega)
      rw [c75] at hc
      obtain ⟨mv, at', ct, rfl, htl, htr, hok⟩ := open_move ht (hD i hil)
      obtain ⟨_, _, hat⟩ := World.cells?_some hc
      obtain ⟨b, o, spot⟩ := a
      have hs : spot = none := by
        obtain ⟨cs0, hc0, _⟩ := hi 0 (by omega)
        rw [c75] at hc0
        exact spot_none (a := ⟨b, o, spot⟩) (n := 0) (by decide) hc0 rfl
      subst hs
      have a0 := hat 0 (by decide)
      have a1 := hat 1 (by decide)
      have a2 := hat 2 (by decide)
      rw [Go.WideShapes.add_plain, Go.WideShapes.add_plain] at a0 a1 a2
      simp only [List.getElem?_cons_zero, List.getElem?_cons_succ, Nat.add_zero] at a0 a1 a2
      exact ⟨mv, b, o, at', ct, rfl, a0, a1, a2, htl, htr, hok⟩)
    refine ⟨some a, ms, cap, by rw [hml], by omega, fun j mv hj => ?_, fun mv hmv => ?_⟩
    · obtain ⟨b, o, at', ct, rfl, q0, q1, q2, q3, q4, _⟩ := hP j mv hj
      exact ⟨b, o, at', ct, rfl, q0, q1, q2, by omega, q4⟩
    · obtain ⟨j, hj, rfl⟩ := List.mem_iff_getElem.1 hmv
      obtain ⟨_, _, _, _, _, _, _, _, _, _, hok⟩ := hP j _ (List.getElem?_eq_getElem hj)
      exact hok
set_option maxRecDepth 100000 in
theorem open_states {fuel : Nat} {c : Value} {x : DataW H × List MemPlace} (hf : DataW.trod enc Tryz.prog W 0 (fun _ => true) true fuel 36 [c] = some x) (hb : uptoBulk x.1 ≤ 1048576) :
    ∃ a S cp, c = .slice a S.length cp ∧ S.length ≤ 1048576 ∧ SRow W a S ∧ (∀ s ∈ S, ∀ m ∈ s.moves, okM m) ∧ ∀ s ∈ S, s.moves.length ≤ 1048576 := by
  have c69 : Tryz.prog.cellsOf 69 = 2 := by kernel_rfl
  have c4 : Tryz.prog.cellsOf 4 = 1 := by kernel_rfl
  have c67 : Tryz.prog.cellsOf 67 = 1 := by kernel_rfl
  rcases Go.Deep.open_slice Tryz.underlying36 hf with ⟨hcs, _⟩ | ⟨a, len, cap, m, n, D, Pl, hcs, _, hl, hm, hmm, hx, hi⟩
  · simp at hcs
    exact ⟨none, [], 0, hcs, Nat.zero_le _, fun j m h => by simp at h, fun m h => by simp at h, fun m h => by simp at h⟩
  · simp at hcs hmm
    subst hcs
    rw [hx] at hb
    simp only [uptoBulk] at hb
    have hlen : len ≤ 1048576 := by
      have h1 := bulk_len ((List.range len).map D)
      rw [List.length_map, List.length_range] at h1
      omega
    have hD : ∀ i, i < len → uptoBulk (D i) ≤ 1048576 := fun i hi => by
      have h1 := bulk_mem (d := D i) (l := (List.range len).map D) (List.mem_map.2 ⟨i, List.mem_range.2 hi, rfl⟩)
      omega
    obtain ⟨S, hml, hP⟩ := list_of (P := fun i (s : Sti) => ∃ b o am cm, a = ⟨b, o, none⟩ ∧ W.cell? ⟨b, o + i * 2, none⟩ = some (.bool s.fin) ∧ W.cell? ⟨b, o + i * 2 + 1, none⟩ = some (.slice am s.moves.length cm) ∧ s.moves.length ≤ 1048576 ∧ MRow W am s.moves ∧ ∀ m ∈ s.moves, okM m) len (fun i hil => by
      obtain ⟨cs', hc, ht⟩ := hi i (by omega)
      rw [c69] at hc
      obtain ⟨y0, y1, n', hxx, hcl, h0, h1⟩ := trod_struct2 Tryz.underlying69 ht
      rw [c69] at hcl
      match cs', hcl with
      | [v0, v1], _ =>
        simp only [c4, c67, List.drop_zero, List.drop_succ_cons, List.take_succ_cons, List.take_zero] at h0 h1
        obtain ⟨f, e0, _⟩ := DataW.trod_bool Tryz.underlying4 h0
        simp at e0
        subst e0
        have hDi := hD i hil
        have hxx2 : D i = .agg [y0.1, y1.1] := congrArg Prod.fst hxx
        rw [hxx2] at hDi
        obtain ⟨am, ms, cm, rfl, hml, hmr, hok⟩ := open_moves h1 (by simp only [uptoBulk, uptoBulkAll] at hDi; omega)
        obtain ⟨_, _, hat⟩ := World.cells?_some hc
        obtain ⟨b, o, spot⟩ := a
        have hs : spot = none := by
          obtain ⟨cs0, hc0, _⟩ := hi 0 (by omega)
          rw [c69] at hc0
          exact spot_none (a := ⟨b, o, spot⟩) (n := 0) (by decide) hc0 rfl
        subst hs
        have a0 := hat 0 (by decide)
        have a1 := hat 1 (by decide)
        rw [Go.WideShapes.add_plain, Go.WideShapes.add_plain] at a0 a1
        simp only [List.getElem?_cons_zero, List.getElem?_cons_succ, Nat.add_zero] at a0 a1
        exact ⟨⟨f, ms⟩, b, o, am, cm, rfl, a0, a1, hml, hmr, hok⟩)
    refine ⟨some a, S, cap, by rw [hml], by omega, fun j s hj => ?_, fun s hs => ?_, fun s hs => ?_⟩
    · obtain ⟨b, o, am, cm, rfl, q0, q1, q2, q3, _⟩ := hP j s hj
      exact ⟨b, o, am, cm, rfl, q0, q1, by omega, q3⟩
    · obtain ⟨j, hj, rfl⟩ := List.mem_iff_getElem.1 hs
      obtain ⟨_, _, _, _, _, _, _, _, _, hok⟩ := hP j _ (List.getElem?_eq_getElem hj)
      exact hok
    · obtain ⟨j, hj, rfl⟩ := List.mem_iff_getElem.1 hs
      obtain ⟨_, _, _, _, _, _, _, q, _, _⟩ := hP j _ (List.getElem?_eq_getElem hj)
      exact q
set_option maxRecDepth 100000 in
theorem open_sets {fuel : Nat} {c : Value} {x : DataW H × List MemPlace} (hf : DataW.trod enc Tryz.prog W 0 (fun _ => true) true fuel 35 [c] = some x) (hb : uptoBulk x.1 ≤ 1048576) :
    ∃ a I cp, c = .slice a I.length cp ∧ I.length ≤ 1048576 ∧ LRow W a I := by
  have c73 : Tryz.prog.cellsOf 73 = 1 := by kernel_rfl
  rcases Go.Deep.open_slice Tryz.underlying35 hf with ⟨hcs, _⟩ | ⟨a, len, cap, m, n, D, Pl, hcs, _, hl, hm, hmm, hx, hi⟩
  · simp at hcs
    exact ⟨none, [], 0, hcs, Nat.zero_le _, fun j m h => by simp at h⟩
  · simp at hcs hmm
    subst hcs
    rw [hx] at hb
    simp only [uptoBulk] at hb
    have hlen : len ≤ 1048576 := by
      have h1 := bulk_len ((List.range len).map D)
      rw [List.length_map, List.length_range] at h1
      omega
    have hD : ∀ i, i < len → uptoBulk (D i) ≤ 1048576 := fun i hi => by
      have h1 := bulk_mem (d := D i) (l := (List.range len).map D) (List.mem_map.2 ⟨i, List.mem_range.2 hi, rfl⟩)
      omega
    obtain ⟨I, hml, hP⟩ := list_of (P := fun i (l : List Int) => ∃ at' ct, W.cell? (a.add i) = some (.slice at' l.length ct) ∧ l.length ≤ 1048576 ∧ IRow W at' l) len (fun i hil => by
      obtain ⟨cs', hc, ht⟩ := hi i (by omega)
      rw [c73, Nat.mul_one] at hc
      obtain ⟨_, hcl, hat⟩ := World.cells?_some hc
      match cs', hcl with
      | [v0], _ =>
        obtain ⟨at', l, ct, rfl, hll, hr⟩ := open_iints ht (hD i hil)
        have a0 := hat 0 (by decide)
        simp only [List.getElem?_cons_zero] at a0
        have e : (a.add i).add 0 = a.add i := by unfold Addr.add; simp
        rw [e] at a0
        exact ⟨l, at', ct, a0, hll, hr⟩)
    refine ⟨some a, I, cap, by rw [hml], by omega, fun j l hj => ?_⟩
    obtain ⟨at', ct, q0, q1, q2⟩ := hP j l hj
    exact ⟨a, at', ct, rfl, q0, by omega, q2⟩
structure AltIn (W : World) (v : Value) (ai : Option Addr) (ci : Nat) (I : List (List Int)) (as' : Option Addr) (cs : Nat) (S : List Sti) : Prop where
  val : v = .agg #[.slice ai I.length ci, .slice as' S.length cs]
  li : I.length ≤ 1048576
  ls : S.length ≤ 1048576
  sets : LRow W ai I
  states : SRow W as' S
  ok : ∀ s ∈ S, ∀ m ∈ s.moves, okM m
  few : ∀ s ∈ S, s.moves.length ≤ 1048576
set_option maxRecDepth 100000 in
theorem open_alt {b0 : Nat} {v : Value} {d : DataW H} {p : List MemPlace} (hv : Value.okWide Tryz.prog W .any b0 38 v) (h : DataW.Trod enc Tryz.prog W 0 (fun _ => true) true 38 v d p) (hb : uptoBulk d ≤ 1048576) :
    ∃ ai ci I as' cs S, AltIn W v ai ci I as' cs S := by
  unfold Value.okWide at hv
  rw [Tryz.underlying38] at hv
  obtain ⟨cs, rfl, hcs, _⟩ := hv
  obtain ⟨fuel, hf⟩ := h
  obtain ⟨y0, y1, n, hx, hl, h0, h1⟩ := trod_struct2 Tryz.underlying38 hf
  have hcs2 : cs.size = 2 := hcs.trans (by kernel_rfl)
  obtain ⟨c0, c1, rfl⟩ : ∃ c0 c1, cs = #[c0, c1] := by
    obtain ⟨l⟩ := cs
    match l, hcs2 with
    | [a, b], _ => exact ⟨a, b, rfl⟩
  have e35 : Tryz.prog.cellsOf 35 = 1 := by kernel_rfl
  have e36 : Tryz.prog.cellsOf 36 = 1 := by kernel_rfl
  simp only [Value.cells] at h0 h1
  simp only [e35, e36, List.drop_zero, List.drop_succ_cons, List.take_succ_cons, List.take_zero] at h0 h1
  have hd : d = .agg [y0.1, y1.1] := congrArg Prod.fst hx
  rw [hd] at hb
  simp only [uptoBulk, uptoBulkAll] at hb
  obtain ⟨ai, I, ci, rfl, hI, hIr⟩ := open_sets h0 (by omega)
  obtain ⟨as', S, cs', rfl, hS, hSr, hok, hfew⟩ := open_states h1 (by omega)
  exact ⟨ai, ci, I, as', cs', S, rfl, hI, hS, hIr, hSr, hok, hfew⟩
end
end Go.Proofs.YtkgfdgfhpdhhaaaGreat
namespace Go.Proofs.YtkgfdgfhpdhhaaaGreat
open Go.ChangeShapes Go.WideShapes Go.ChangeAt Go.RowKit
open Go.Proofs.YtkgfdgfhpdhhaaaGreat.Rows (uptoBulk uptoBulkAll)
attribute [local go_sem] Oper.semAt_some
structure LasZ (W : World) (v : Value) (ap : Option Addr) (cp : Nat) (P : List Int) (al : Option Addr) (cl : Nat) (L : List Int) : Prop where
  val : v = .agg #[.slice ap P.length cp, .slice al L.length cl]
  len : P.length + L.length ≤ 1048576
  rp : URow W ap P
  rl : URow W al L
  ok : ∀ x ∈ P ++ L, okU x
  np : ap = none → cp = 0
  nl : al = none → cl = 0
section
variable {H : Type} {enc : TypeId × Value → H} {W : World}
theorem open_uintz {fuel : Nat} {c : Value} {x : DataW H × List MemPlace} (hf : DataW.trod enc Tryz.prog W 0 (fun _ => true) true fuel 26 [c] = some x) :
    ∃ a l cp, c = .slice a l.length cp ∧ l.length + 1 ≤ uptoBulk x.1 ∧ URow W a l ∧ (∀ x ∈ l, okU x) ∧ (a = none → cp = 0) := by
  rcases open_ints Tryz.underlying26 Tryz.underlying53 (by kernel_rfl) hf with ⟨hcs, hx⟩ | ⟨a, len', cap', zs, hcs, _, hl, hm, hz, hx, hc, hw⟩
  · simp at hcs
    exact ⟨none, [], 0, hcs, by rw [hx]; simp [uptoBulk], fun j x h => by simp at h, fun x h => by simp at h, fun _ => rfl⟩
  · simp at hcs hz
    have hlen : (zs.take len').length = len' := by rw [List.length_take]; omega
    have hbd : len' + 1 ≤ uptoBulk x.1 := by
      rw [hx]
      simp only [uptoBulk]
      have h1 := bulk_len (lits (H := H) .u64 (zs.take len'))
      have h2 : (lits (H := H) .u64 (zs.take len')).length = len' := by simp only [lits, List.length_map]; exact hlen
      omega
    refine ⟨some a, zs.take len', cap', by rw [hlen]; exact hcs, by omega, fun j x hj => ⟨a, rfl, ?_⟩, fun x hx => u64_ok (hw x (List.mem_of_mem_take hx)), fun e => by simp at e⟩
    have hj1 : j < len' := by
      have := (List.getElem?_eq_some_iff.1 hj).1
      omega
    rw [List.getElem?_take, if_pos hj1] at hj
    have h2 := hc j (by omega)
    rw [List.getD_eq_getElem?_getD, hj] at h2
    exact h2
set_option maxRecDepth 100000 in
theorem open_lasz {b0 : Nat} {v : Value} {d : DataW H} {p : List MemPlace} (hv : Value.okWide Tryz.prog W .any b0 28 v) (h : DataW.Trod enc Tryz.prog W 0 (fun _ => true) true 28 v d p) (hb : uptoBulk d ≤ 1048576) :
    ∃ ap cp P al cl L, LasZ W v ap cp P al cl L := by
  unfold Value.okWide at hv
  rw [Tryz.underlying28] at hv
  obtain ⟨cs, rfl, hcs, _⟩ := hv
  obtain ⟨fuel, hf⟩ := h
  obtain ⟨y0, y1, n, hx, hl, h0, h1⟩ := trod_struct2 Tryz.underlying28 hf
  have hcs2 : cs.size = 2 := hcs.trans (by kernel_rfl)
  obtain ⟨c0, c1, rfl⟩ : ∃ c0 c1, cs = #[c0, c1] := by
    obtain ⟨l⟩ := cs
    match l, hcs2 with
    | [a, b], _ => exact ⟨a, b, rfl⟩
  have e26 : Tryz.prog.cellsOf 26 = 1 := by kernel_rfl
  simp only [Value.cells] at h0 h1
  simp only [e26, List.drop_zero, List.drop_succ_cons, List.take_succ_cons, List.take_zero] at h0 h1
  have hd : d = .agg [y0.1, y1.1] := congrArg Prod.fst hx
  rw [hd] at hb
  simp only [uptoBulk, uptoBulkAll] at hb
  obtain ⟨ap, P, cp, rfl, b0, r0, o0, n0⟩ := open_uintz h0
  obtain ⟨al, L, cl, rfl, b1, r1, o1, n1⟩ := open_uintz h1
  exact ⟨ap, cp, P, al, cl, L, rfl, by omega, r0, r1, fun x hx => (List.mem_append.1 hx).elim (o0 x) (o1 x), n0, n1⟩
end
theorem sumN_few {S : List Sti} (h : ∀ s ∈ S, s.moves.length ≤ 1048576) : sumN S ≤ 1048576 * S.length := by
  induction S with
  | nil => exact Nat.le_refl _
  | cons s S ih =>
    have h1 := ih (fun x hx => h x (List.mem_cons_of_mem _ hx))
    have h2 := h s (List.mem_cons_self ..)
    unfold sumN at h1 ⊢
    simp only [List.map_cons, List.sum_cons, List.length_cons]
    omega
end Go.Proofs.YtkgfdgfhpdhhaaaGreat
namespace Go.Proofs.YtkgfdgfhpdhhaaaGreat
open Go.ChangeShapes Go.WideShapes Go.RowKit
attribute [local go_sem] Oper.semAt_some
section
variable {w : World} {ao bo : Option Addr} {l m : List Int} {c d : Nat}
set_option maxRecDepth 100000 in
set_option maxHeartbeats 4000000 in
theorem index_int (hl : l.length ≤ 2000000) (h : IRow w ao l) (x : Int) : Calls Tryz.prog 187 #[.slice ao l.length c, .int .i64 x] w fun e w' => (∃ r : Int, e = .returned (.int .i64 r) ∧ (decide (0 ≤ r) = l.contains x)) ∧ Chg Nob w w' := by
  have H := Lib.hid h
  clear h
  go_enter Tryz.func187, Tryz.ntmps187
  go_wp2_with fail
  go_loopw [8] (fun iv wr => ∃ i : Nat, iv = .int .i64 (i : Int) ∧ i ≤ l.length ∧ Hid (∀ (j : Nat) y, j < i → l[j]? = some y → y ≠ x) ∧ Hid (Chg Nob w wr)) (fun iv _ => l.length - (intOf iv).toNat)
  case atStart => exact ⟨0, rfl, Nat.zero_le _, (by show ∀ (j : Nat) y, j < 0 → _; intro j y hj; omega), Chg.refl _ _⟩
  case round =>
    obtain ⟨i, rfl, hi, Hno, Hc⟩ := hrel
    by_cases hlt : i < l.length
    · obtain ⟨y, hy⟩ : ∃ y, l[i]? = some y := ⟨_, List.getElem?_eq_getElem hlt⟩
      obtain ⟨a, rfl, hcell⟩ := H.out i y hy
      have hcell2 := Hc.out.cell' hcell (by unfold Addr.add; split <;> exact fun e => e)
      have hii : (i : Int) < (l.length : Int) := by omega
      have hi0 : (0 : Int) ≤ (i : Int) := by omega
      have Hy := Lib.hid hy
      clear hy hcell
      cases hd : (x == y) with
      | true =>
        have Hr : Hid (l.contains x = true) := (show l.contains x = true from List.contains_iff_mem.2 (by rw [beq_iff_eq.1 hd]; exact List.mem_of_getElem? Hy.out))
        have hd2 : (y == x) = true := by rw [beq_iff_eq.1 hd]; exact beq_self_eq_true y
        go_wp2_with fail
        go_ret
        exact ⟨⟨i, rfl, by rw [Hr.out]; exact decide_eq_true hi0⟩, Hc.out⟩
      | false =>
        have hd2 : (y == x) = false := beq_eq_false_iff_ne.2 (fun e => beq_eq_false_iff_ne.1 hd e.symm)
        have Hno2 : Hid (∀ (j : Nat) z, j < i + 1 → l[j]? = some z → z ≠ x) := (show ∀ (j : Nat) z, j < i + 1 → l[j]? = some z → z ≠ x by
          intro j z hj hz
          by_cases e : j = i
          · subst e; rw [Hy.out] at hz; cases hz; exact beq_eq_false_iff_ne.1 hd2
          · exact Hno.out j z (by omega) hz)
        go_wp2_with fail
        go_roundw
        case rel => exact ⟨i + 1, by go_num, by omega, Hno2, Hc⟩
        case measure => simp [intOf]; omega
    · obtain rfl : i = l.length := by omega
      have Hr : Hid (l.contains x = false) := (show l.contains x = false by
        cases hcx : l.contains x with
        | false => rfl
        | true =>
          obtain ⟨j, hj, e⟩ := List.mem_iff_getElem.1 (List.contains_iff_mem.1 hcx)
          exact absurd e (Hno.out j _ hj (List.getElem?_eq_getElem hj)))
      go_wp2_with fail
      go_ret
      exact ⟨⟨-1, rfl, by rw [Hr.out]; rfl⟩, Hc.out⟩
set_option maxRecDepth 100000 in
set_option maxHeartbeats 4000000 in
theorem contains_int (hl : l.length ≤ 2000000) (h : IRow w ao l) (x : Int) : Calls Tryz.prog 158 #[.slice ao l.length c, .int .i64 x] w fun e w' => e = .returned (.bool (l.contains x)) ∧ Chg Nob w w' := by
  have hp := index_int (c := c) hl h x
  clear h
  go_enter Tryz.func158, Tryz.ntmps158
  go_wp2_with fail
  (with_reducible refine hp.mono ?_)
  clear hp
  rintro e w' ⟨⟨r, rfl, hr⟩, hc⟩
  have Hr := Lib.hid hr
  clear hr
  go_wp2_with fail
  go_ret
  exact ⟨by rw [← Hr.out]; rfl, hc⟩
def withinI (l m : List Int) : Bool := l.all fun x => m.contains x
set_option maxRecDepth 100000 in
set_option maxHeartbeats 4000000 in
theorem within_fn {mb : Nat} (hbox : w.cell? ⟨mb, 0, none⟩ = some (.slice bo m.length d)) (hm : m.length ≤ 2000000) (h : IRow w bo m) (x : Int) : Calls Tryz.prog 157 #[.int .i64 x, .pointer (some ⟨mb, 0, none⟩)] w fun e w' => e = .returned (.bool (!(m.contains x))) ∧ Chg Nob w w' := by
  have hp := contains_int (c := d) hm h x
  generalize m.contains x = b at *
  clear h
  go_enter Tryz.func157, Tryz.ntmps157
  go_wp2_with fail
  (with_reducible refine hp.mono ?_)
  clear hp
  rintro e w' ⟨rfl, hc⟩
  go_wp2_with fail
  go_ret
  exact ⟨rfl, hc⟩
set_option maxRecDepth 100000 in
set_option maxHeartbeats 4000000 in
theorem within_any (hl : l.length ≤ 2000000) (hm : m.length ≤ 2000000) (h : IRow w ao l) (k : IRow w bo m) : Calls Tryz.prog 119 #[.slice ao l.length c, .slice bo m.length d] w fun e w' => e = .returned (.bool (withinI l m)) ∧ Chg Nob w w' := by
  obtain ⟨X, hX, hcX, hb, _⟩ := box_cells w #[.slice bo m.length d] 73
  have hbox := cell_row hb 0 (v := .slice bo m.length d) rfl
  have hp := contains_ints (c := c) (k := 157) (caps := #[.pointer (some ⟨w.heap.size, 0, none⟩)]) (s := fun x => !(m.contains x)) hl (h.nob hcX) (enters_of Tryz.func157 (by kernel_rfl) rfl) (fun i x hx W hW => within_fn (hW.cell' hbox (fun e => e)) hm ((k.nob hcX).nob hW) x)
  have HcX := Lib.hid hcX
  have e : withinI l m = !(l.any fun x => !(m.contains x)) := by
    unfold withinI
    rw [List.not_any_eq_all_not]
    congr 1
    funext x
    exact (Bool.not_not _).symm
  rw [e]
  generalize (l.any fun x => !(m.contains x)) = b at *
  clear h k hb hcX hbox e
  go_enter Tryz.func119, Tryz.ntmps119
  go_wp2_with fail
  rw [← hX]
  (with_reducible refine hp.mono ?_)
  clear hp
  rintro e w' ⟨rfl, hc⟩
  go_wp2_with fail
  go_ret
  exact ⟨rfl, HcX.out.trans1 hc⟩
def coversI (a b : Mvi) : Bool := (bits .andNot .u64 a.yes b.yes == 0) && ((bits .andNot .u64 a.no b.no == 0) && withinI a.to b.to)
set_option maxRecDepth 100000 in
set_option maxHeartbeats 4000000 in
theorem covers_any {a b : Mvi} {ca cb : Nat} (hl : a.to.length ≤ 2000000) (hm : b.to.length ≤ 2000000) (h : IRow w ao a.to) (k : IRow w bo b.to) : Calls Tryz.prog 155 #[.agg #[.int .u64 a.yes, .int .u64 a.no, .slice ao a.to.length ca], .agg #[.int .u64 b.yes, .int .u64 b.no, .slice bo b.to.length cb]] w fun e w' => e = .returned (.bool (coversI a b)) ∧ Chg Nob w w' := by
  obtain ⟨X1, hX1, hcX1, hb1, hs1⟩ := box_cells w #[.int .u64 a.yes, .int .u64 a.no, .slice ao a.to.length ca] 75
  obtain ⟨X, hX, hcX, hb2, _⟩ := box_cells X1 #[.int .u64 b.yes, .int .u64 b.no, .slice bo b.to.length cb] 75
  obtain ⟨c0, c1, c2, _⟩ := cells_three (hcX.at hb1 (fun e => e))
  rw [hs1] at hb2
  obtain ⟨d0, d1, d2, _⟩ := cells_three hb2
  have hp := within_any (w := X) (c := ca) (d := cb) hl hm ((h.nob hcX1).nob hcX) ((k.nob hcX1).nob hcX)
  have HcX := Lib.hid (hcX1.trans1 hcX)
  obtain ⟨y, hy⟩ : ∃ y, bits .andNot .u64 a.yes b.yes = y := ⟨_, rfl⟩
  obtain ⟨z, hz⟩ : ∃ z, bits .andNot .u64 a.no b.no = z := ⟨_, rfl⟩
  have e : coversI a b = ((y == 0) && ((z == 0) && withinI a.to b.to)) := by unfold coversI; rw [hy, hz]
  rw [e]
  rw [hX1] at hX
  rw [hX] at c0 c1 c2 d0 d1 d2
  clear h k hb1 hb2 hcX1 hcX e hs1 hX1
  go_enter Tryz.func155, Tryz.ntmps155
  cases h1 : (y == 0) with
  | false =>
    go_wp2_with fail
    go_ret
    exact ⟨rfl, by rw [← hX]; exact HcX.out⟩
  | true =>
    cases h2 : (z == 0) with
    | false =>
      go_wp2_with fail
      go_ret
      exact ⟨rfl, by rw [← hX]; exact HcX.out⟩
    | true =>
      go_wp2_with fail
      rw [← hX]
      (with_reducible refine hp.mono ?_)
      clear hp
      rintro e w' ⟨rfl, hc⟩
      go_wp2_with fail
      go_ret
      exact ⟨rfl, HcX.out.trans1 hc⟩
end
end Go.Proofs.YtkgfdgfhpdhhaaaGreat
namespace Go.Proofs.YtkgfdgfhpdhhaaaGreat
open Go.ChangeShapes Go.WideShapes Go.RowKit
theorem Tryz.info3i : (Tryz.prog.info? 3).map (fun i => (i.zero, i.size, i.bytes)) = some (some (.int .i64 0), 1, 8) := by kernel_rfl
theorem info3i_parts : ∃ i, Tryz.prog.info? 3 = some i ∧ i.zero = some (.int .i64 0) ∧ i.size = 1 ∧ i.bytes = 8 := by
  have h := Tryz.info3i
  cases hi : Tryz.prog.info? 3 with
  | none => rw [hi] at h; simp at h
  | some i => rw [hi] at h; simp at h; exact ⟨i, rfl, h.1, h.2.1, h.2.2⟩
def ivs (M : List Int) : List Value := M.map (.int .i64)
theorem ivs_one (M : List Int) : ∀ u ∈ ivs M, u.oneCell' = true := by
  intro u hu
  obtain ⟨x, _, rfl⟩ := List.mem_map.1 hu
  rfl
theorem append3i {B : Nat} {w : World} {v : Value} {n : Nat} {xs : List Value} {a : Addr} {M : List Int} (c : Nat) (h : w.ownsRow B 3 1 v n xs) (hB : B ≤ w.heap.size) (hn : n + M.length ≤ 1000000) (hM : ∀ j x, M[j]? = some x → w.cell? (a.add j) = some (.int .i64 x)) :
    ∃ v' w', (Builtin.append_ #[73, 73] 73 #[v, .slice (some a) M.length c]).run Tryz.prog w = .ok v' w' ∧ w'.ownsRow B 3 1 v' (n + M.length) (xs ++ ivs M) ∧ w.grownBy w' v.ownBlock ∧ (v'.ownBlock = v.ownBlock ∨ v'.ownBlock = some w.heap.size) := by
  obtain ⟨i, hi, hz, hs, hb⟩ := info3i_parts
  obtain ⟨v', w', h1, h2, h3, _, h5⟩ := run_append_own_at (P := Tryz.prog) w B 73 73 3 i _ 1 8 Tryz.underlying73 hi hz hs hb rfl (by decide) v n _ h a M.length c (ivs M) (by simp [ivs])
    (fun j u hj => by
      unfold ivs at hj
      rw [List.getElem?_map] at hj
      cases hx : M[j]? with
      | none => rw [hx] at hj; cases hj
      | some x => rw [hx] at hj; cases hj; exact hM j x hx) (ivs_one M) (by unfold maxLen; omega) (by omega) hB
  exact ⟨v', w', h1, h2, h3, h5⟩
set_option maxRecDepth 100000 in
set_option maxHeartbeats 4000000 in
theorem igrow_any (n : Nat) (h1 : 1 ≤ n) (hn : n ≤ 10000) (w : World) : Calls Tryz.prog 152 #[.slice none 0 0, .int .i64 (n : Int)] w fun e w' => Chg Nob w w' ∧ ∃ v, e = .returned v ∧ w'.ownsRow w.heap.size 3 1 v 0 [] := by
  obtain ⟨i, hi, hz, hs, hb⟩ := info3i_parts
  have hrun := Lib.run_append_nil_zeros (P := Tryz.prog) w 73 3 73 3 i (.int .i64 0) .i64 .i64 Tryz.underlying73 Tryz.underlying3 hi hz n h1 (by rw [hs]; omega) (by omega) (by rw [hb]; omega)
  obtain ⟨G, hG⟩ : ∃ G, G = grownCap w n 0 3 := ⟨_, rfl⟩
  have hGn : n ≤ G := hG ▸ grownCap_ge w _ _ _
  have hGm : G ≤ maxLen := hG ▸ grownCap_le_maxLen w n 0 3 (by unfold maxLen; omega)
  rw [← hG] at hrun
  obtain ⟨Z, hZ⟩ : ∃ Z, Z = Builtin.zeroCells (Value.cells (.int .i64 0)) n ++ Builtin.zeroCells (Value.cells (.int .i64 0)) (G - n) := ⟨_, rfl⟩
  have hZs : Z.size = G * 1 := by
    rw [hZ, Array.size_append]
    simp [Builtin.zeroCells, Value.cells]
    omega
  rw [← hZ] at hrun
  have hrow : (w.drew.alloc (.cells Z 3)).ownsRow w.heap.size 3 1 (.slice (some ⟨w.heap.size, 0, none⟩) 0 G) 0 [] := World.ownsRow_made w.drew Z G (Nat.le_refl _) hGm hZs
  have hc : Chg Nob w (w.drew.alloc (.cells Z 3)) := ((Chg.refl _ _).drew).alloc _
  have Hrow := Lib.hid hrow
  have Hc := Lib.hid hc
  have hni : ¬ (n : Int) < 0 := by omega
  have hni2 : (0 : Int) < (n : Int) := by omega
  have hni3 : (n : Int) ≤ 10000 := by omega
  have hGi : 0 ≤ G := Nat.zero_le _
  unfold maxLen at hGm
  clear hrow hc hZ hZs hG
  have Hrun := Lib.hid hrun
  clear hrun
  go_enter Tryz.func152, Tryz.ntmps152
  go_wp2_with (refine wpList_append_known rfl _ _ 73 3 rfl _ _ rfl rfl _ _ Hrun.out ?_)
  go_wp2
  go_ret
  exact ⟨Hc.out, _, rfl, Hrow.out⟩
set_option maxRecDepth 100000 in
set_option maxHeartbeats 4000000 in
theorem igrow_zero (w : World) : Calls Tryz.prog 152 #[.slice none 0 0, .int .i64 ((0 : Nat) : Int)] w fun e w' => Chg Nob w w' ∧ ∃ v, e = .returned v ∧ w'.ownsRow w.heap.size 3 1 v 0 [] := by
  go_enter Tryz.func152, Tryz.ntmps152
  go_wp2_with fail
  go_ret
  exact ⟨Chg.refl _ _, _, rfl, World.ownsRow_nil _ _ _ _⟩
theorem append_i {B : Nat} {w : World} {v : Value} {n : Nat} {xs : List Value} {ao : Option Addr} {M : List Int} {c : Nat} (h : w.ownsRow B 3 1 v n xs) (hB : B ≤ w.heap.size) (hn : n + M.length ≤ 1000000) (hM : IRow w ao M) (hnil : ao = none → c = 0) :
    ∃ v' w', (Builtin.append_ #[73, 73] 73 #[v, .slice ao M.length c]).run Tryz.prog w = .ok v' w' ∧ w'.ownsRow B 3 1 v' (n + M.length) (xs ++ ivs M) ∧ w.grownBy w' v.ownBlock := by
  cases ao with
  | some a =>
    obtain ⟨v', w', h1, h2, h3, _⟩ := append3i c h hB hn (fun j x hj => by obtain ⟨_, e, h⟩ := hM j x hj; cases e; exact h)
    exact ⟨v', w', h1, h2, h3⟩
  | none =>
    have hM0 : M = [] := by
      cases M with
      | nil => rfl
      | cons x M => obtain ⟨_, e, _⟩ := hM 0 x rfl; cases e
    subst hM0
    obtain rfl := hnil rfl
    obtain ⟨i, hi, hz, hs, hb⟩ := info3i_parts
    refine ⟨v, w, run_append_owned_none (P := Tryz.prog) (w := w) B 73 73 3 i 1 Tryz.underlying73 hi v n xs h, ?_, ⟨rfl, rfl, rfl, Nat.le_refl _, fun _ _ _ => rfl⟩⟩
    rw [show ivs [] = [] from rfl, List.append_nil]
    exact h
section
variable {ap al : Option Addr} {cp cl rb c : Nat} {P L : List Int} {w : World}
set_option maxRecDepth 100000 in
set_option maxHeartbeats 4000000 in
theorem concat_int (hl : P.length + L.length ≤ 10000) (hP : IRow w ap P) (hL : IRow w al L) (hnp : ap = none → cp = 0) (hnl : al = none → cl = 0)
    (hb : w.heap[rb]? = some (.cells #[.slice ap P.length cp, .slice al L.length cl] 73 (0, 0))) :
    Calls Tryz.prog 111 #[.slice (some ⟨rb, 0, none⟩) 2 c] w fun e w' => Chg Nob w w' ∧ ∃ v, e = .returned v ∧ w'.ownsRow w.heap.size 3 1 v (P.length + L.length) (ivs (P ++ L)) := by
  have hg : Calls Tryz.prog 152 #[.slice none 0 0, .int .i64 ((P.length + L.length : Nat) : Int)] w fun e w' => Chg Nob w w' ∧ ∃ v, e = .returned v ∧ w'.ownsRow w.heap.size 3 1 v 0 [] := by
    rcases Nat.eq_zero_or_pos (P.length + L.length) with h | h
    · rw [h]; exact igrow_zero w
    · exact igrow_any (P.length + L.length) h hl w
  rw [Int.natCast_add] at hg
  obtain ⟨c0, c1, _⟩ := cell_two hb
  have HP := Lib.hid hP
  have HL := Lib.hid hL
  have Hnp := Lib.hid hnp
  have Hnl := Lib.hid hnl
  have Hb := Lib.hid hb
  have hpl : (P.length : Int) ≤ 10000 := by omega
  have hll : (L.length : Int) ≤ 10000 := by omega
  have hsum : ((P.length : Int) + (L.length : Int)) ≤ 10000 := by omega
  clear hP hL hnp hnl hb
  go_enter Tryz.func111, Tryz.ntmps111
  go_wp2_with fail
  refine wp_loop_rounds 3 ?_
  rw [rounds_succ]
  go_wp2_with fail
  rw [rounds_succ]
  go_wp2_with fail
  rw [rounds_succ]
  go_wp2_with fail
  (with_reducible refine hg.mono ?_)
  clear hg c0 c1
  rintro e w2 ⟨hc2, v, rfl, hrow⟩
  have hs2 := hc2.size
  have h1 := append_i (ao := ap) (M := P) (c := cp) hrow hs2 (by omega) (HP.out.nob hc2) Hnp.out
  obtain ⟨v3, h1⟩ := h1
  obtain ⟨w3, h1⟩ := h1
  have hrun3 := h1.1
  have hrow3 := h1.2.1
  have hgr3 := h1.2.2
  have hc3 : Chg Nob w w3 := hc2.trans (S' := fun b => v.ownBlock = some b) ((Chg.refl _ _).grown hgr3 (fun k e _ => e)) (fun i hi e => by have := (hrow.lt i e).1; omega)
  rw [Nat.zero_add, List.nil_append] at hrow3
  have hs3 := hc3.size
  have h2 := append_i (ao := al) (M := L) (c := cl) hrow3 hs3 (by omega) (HL.out.nob hc3) Hnl.out
  obtain ⟨v4, h2⟩ := h2
  obtain ⟨w4, h2⟩ := h2
  have hrun4 := h2.1
  have hrow4 := h2.2.1
  have hgr4 := h2.2.2
  have hc4 : Chg Nob w w4 := hc3.trans (S' := fun b => v3.ownBlock = some b) ((Chg.refl _ _).grown hgr4 (fun k e _ => e)) (fun i hi e => by have := (hrow3.lt i e).1; omega)
  have he : ivs P ++ ivs L = ivs (P ++ L) := by unfold ivs; rw [List.map_append]
  rw [he] at hrow4
  have Hrow4 := Lib.hid hrow4
  have Hc4 := Lib.hid hc4
  have Hrun3 := Lib.hid hrun3
  have Hrun4 := Lib.hid hrun4
  obtain ⟨c0, c1, _⟩ := cell_two (hc2.at Hb.out (fun e => e))
  obtain ⟨d0, d1, _⟩ := cell_two (hc3.at Hb.out (fun e => e))
  clear h1 h2 hrow hrow3 hrow4 hgr3 hgr4 hc2 hc3 hc4 hrun3 hrun4 he hs2 hs3
  go_wp2_with fail
  refine wp_loop_rounds 3 ?_
  rw [rounds_succ]
  go_wp2_with (refine wpList_append_known rfl _ _ 73 73 rfl _ _ rfl rfl _ w3 Hrun3.out ?_)
  rw [rounds_succ]
  go_wp2_with (refine wpList_append_known rfl _ _ 73 73 rfl _ _ rfl rfl _ w4 Hrun4.out ?_)
  rw [rounds_succ]
  go_wp2
  go_ret
  exact ⟨Hc4.out, _, rfl, Hrow4.out⟩
end
end Go.Proofs.YtkgfdgfhpdhhaaaGreat
namespace Go.Proofs.YtkgfdgfhpdhhaaaGreat
open Go.ChangeShapes Go.WideShapes Go.RowKit Go.Shelf Go.Sort
attribute [local go_sem] Oper.semAt_some
def joinI (a b : List Int) : List Int := Lib.compact ((a ++ b).mergeSort fun x y => decide (x ≤ y))
theorem joinI_len (a b : List Int) : (joinI a b).length ≤ a.length + b.length := by
  have h := Lib.compact_length_le ((a ++ b).mergeSort fun x y => decide (x ≤ y))
  rw [List.length_mergeSort, List.length_append] at h
  exact h
theorem holds_ints {W : World} {B g n cap : Nat} {L : List Int} (h : W.ownsRow B 3 1 (.slice (some ⟨g, 0, none⟩) n cap) n (ivs L)) : Holds (Value.int .i64) W g 0 L.toArray := fun j hj => by
  have hjl : j < L.length := by simpa using hj
  rw [Nat.zero_add]
  refine ⟨?_, ownsRow_frozen h j⟩
  have h1 := ownsRow_at h (j := j) (u := .int .i64 L[j]) (by unfold ivs; rw [List.getElem?_map, List.getElem?_eq_getElem hjl]; rfl)
  rw [h1, getElem!_pos L.toArray j hj]
  simp
theorem holds_chgi {W W' : World} {g : Nat} {d : Array Int} (h : Holds (Value.int .i64) W g 0 d) (hc : Chg Nob W W') : Holds (Value.int .i64) W' g 0 d := by
  intro j hj
  obtain ⟨h1, h2⟩ := h j hj
  refine ⟨hc.cell' h1 (fun e => e), ?_⟩
  have hb := hc.block g (World.block_lt_of_cell? _ _ h1) (fun e => e)
  unfold World.frozen? at h2 ⊢
  show (match W'.heap[g]? with | _ => _) = false
  rw [hb]
  exact h2
theorem chg_putRowi (w : World) (g off : Nat) (d : Array Int) : Chg (At1 g) w (putRow (Value.int .i64) w g off d) := by
  refine ⟨rfl, rfl, rfl, by simp, fun k _ hn => ?_⟩
  unfold putRow mapBlock
  rw [Array.getElem?_modify, if_neg (fun e => hn e.symm)]
theorem putRow_type {w : World} {g t : Nat} {cs : Array Value} {m : Nat × Nat} (h : w.heap[g]? = some (.cells cs t m)) (off : Nat) (d : Array Int) : ∃ cs', (putRow (Value.int .i64) w g off d).heap[g]? = some (.cells cs' t m) := by
  unfold putRow mapBlock
  rw [Array.getElem?_modify, if_pos rfl, h]
  exact ⟨_, rfl⟩
def TRow (W : World) (lo : Nat) (ao : Option Addr) (l : List Int) : Prop := IRow W ao l ∧ (l ≠ [] → ∃ g cs m, ao = some ⟨g, 0, none⟩ ∧ lo ≤ g ∧ W.heap[g]? = some (.cells cs 3 m))
section
variable {w : World} {ao bo : Option Addr} {a b : List Int} {ca cb : Nat}
set_option maxRecDepth 100000 in
set_option maxHeartbeats 8000000 in
theorem join_any (hl : a.length + b.length ≤ 10000) (ha : IRow w ao a) (hb : IRow w bo b) (hna : ao = none → ca = 0) (hnb : bo = none → cb = 0) :
    Calls Tryz.prog 61 #[.slice ao a.length ca, .slice bo b.length cb] w fun e w' => Chg Nob w w' ∧ ∃ at' ct, e = .returned (.slice at' (joinI a b).length ct) ∧ TRow w' w.heap.size at' (joinI a b) ∧ (at' = none → ct = 0) := by
  obtain ⟨X, hX, hcX, hbX, hsX⟩ := box_cells w #[.slice ao a.length ca, .slice bo b.length cb] 73
  have hpc := concat_int (c := 2) (w := X) hl (ha.nob hcX) (hb.nob hcX) hna hnb hbX
  have HcX := Lib.hid hcX
  have HsX := Lib.hid hsX
  obtain ⟨L, hL⟩ : ∃ L, L = a ++ b := ⟨_, rfl⟩
  have hLl : L.length = a.length + b.length := by rw [hL, List.length_append]
  rw [← hL, ← hLl] at hpc
  have hj : joinI a b = Lib.compact (L.mergeSort fun x y => decide (x ≤ y)) := by rw [hL]; rfl
  rw [hj]
  have hl10 : L.length ≤ 10000 := by omega
  obtain ⟨Z, hZ⟩ : ∃ Z, Z = L.mergeSort fun x y => decide (x ≤ y) := ⟨_, rfl⟩
  rw [← hZ]
  have HZ := Lib.hid hZ
  clear ha hb hbX hcX hsX hna hnb hj hLl hL hZ
  go_enter Tryz.func61, Tryz.ntmps61
  go_wp2_with fail
  rw [← hX]
  clear hX
  (with_reducible refine hpc.mono ?_)
  clear hpc
  rintro e W ⟨hc1, v, rfl, hown⟩
  have Hc1 : Hid (Chg Nob w W) := (show Chg Nob w W from HcX.out.trans1 hc1)
  clear hc1
  rcases Nat.eq_zero_or_pos L.length with h0 | hpos
  · obtain rfl : L = [] := List.length_eq_zero_iff.1 h0
    obtain ⟨av, cp, rfl⟩ := ownsRow_shape hown
    have hz : av = none → cp = 0 := fun e => by
      subst e
      rcases hown.2 with ⟨h, _⟩ | ⟨_, _, _, h, _⟩
      · cases h; rfl
      · cases h
    have HZ0 : Hid (Lib.compact Z = []) := (show Lib.compact Z = [] by rw [HZ.out]; simp [Lib.compact, Lib.compactUpTo])
    clear hown h0
    go_wp2_with fail
    (with_reducible refine (Tryz.slices_Sort_int_none av cp W).mono ?_)
    rintro e w6 ⟨rfl, rfl⟩
    go_wp2_with fail
    (with_reducible refine (Tryz.slices_Compact_int_empty av cp _).mono ?_)
    rintro e w7 ⟨rfl, rfl⟩
    go_wp2_with fail
    go_ret
    exact ⟨Hc1.out, av, cp, by rw [HZ0.out]; rfl, ⟨fun j x h => by rw [HZ0.out] at h; simp at h, fun h => absurd HZ0.out h⟩, hz⟩
  · obtain ⟨g, cap, rfl, _⟩ := ownsRow_some hown hpos
    have hcap := ownsRow_cap hown
    have hg := hown.lt g rfl
    obtain ⟨cs0, m0', hblk⟩ := ownsRow_block hown g rfl
    have hH := holds_ints hown
    have hsort := Tryz.slices_Sort_int g 0 cap L W hH hg.2 (by omega)
    rw [← HZ.out] at hsort
    have hml : Z.length = L.length := by rw [HZ.out]; exact List.length_mergeSort _
    have hcl := Lib.compact_length_le Z
    have HH := Lib.hid hH
    have Hg : Hid (w.heap.size ≤ g ∧ g < W.heap.size) := (show _ ∧ _ by have := HsX.out; omega)
    have Hblk := Lib.hid hblk
    clear hown hH hg hblk
    go_wp2_with fail
    (with_reducible refine hsort.mono ?_)
    rintro e w6 ⟨rfl, q, os, hw6⟩
    have hc6 : Chg (At1 g) W w6 := by
      rw [hw6]
      exact ((chg_ahead W q).any.trans1 (chg_putRowi _ g 0 _)).trans1 (chg_grow _ os).any
    have hH6 : Holds (Value.int .i64) w6 g 0 Z.toArray := by
      rw [hw6]
      exact holds_chgi (holds_putRow _ _ _ _ _ _ (holds_ahead _ _ _ _ _ _ HH.out) (by simp [hml])) (chg_grow _ os)
    have HT6 : Hid (∃ cs, w6.heap[g]? = some (.cells cs 3 m0')) := (show ∃ cs, w6.heap[g]? = some (.cells cs 3 m0') by
      obtain ⟨cs1, h1⟩ := putRow_type ((chg_ahead W q).at Hblk.out (fun e => e)) 0 Z.toArray
      rw [hw6]
      exact ⟨cs1, (chg_grow _ os).at h1 (fun e => e)⟩)
    have hcomp := Tryz.slices_Compact_int g 0 cap Z w6 hH6 (by omega) (by omega)
    rw [hml] at hcomp
    have Hml := Lib.hid hml
    have Hcl := Lib.hid hcl
    have Hc6 := Lib.hid hc6
    have HH6 := Lib.hid hH6
    clear hw6 hsort hml hcl hc6 hH6
    go_wp2_with fail
    (with_reducible refine hcomp.mono ?_)
    rintro e w7 ⟨rfl, q7, hw7⟩
    have hc7 : Chg (At1 g) w6 w7 := by
      rw [hw7]
      exact (chg_ahead w6 q7).any.trans1 (chg_putRowi _ g 0 _)
    have Ht : Hid (∀ j x, (Lib.compact Z)[j]? = some x → w7.cell? ⟨g, 0 + j, none⟩ = some (.int .i64 x)) := (show ∀ j x, (Lib.compact Z)[j]? = some x → w7.cell? ⟨g, 0 + j, none⟩ = some (.int .i64 x) from fun j x hx => by
      rw [hw7]
      have hjl := (List.getElem?_eq_some_iff.1 hx).1
      have hsz : (Lib.compact Z ++ List.replicate (L.length - (Lib.compact Z).length) 0).toArray.size = Z.toArray.size := by
        have := Hml.out
        have := Hcl.out
        simp; omega
      have := cell?_putRow (Value.int .i64) (Sort.ahead w6 q7) g 0 Z.toArray (Lib.compact Z ++ List.replicate (L.length - (Lib.compact Z).length) 0).toArray (holds_ahead _ _ _ _ _ _ HH6.out) hsz j (by simp; omega)
      rw [this]
      congr 1
      rw [getElem!_pos _ j (by simp; omega)]
      have e2 : (Lib.compact Z ++ List.replicate (L.length - (Lib.compact Z).length) 0)[j]? = some x := by rw [List.getElem?_append_left hjl]; exact hx
      obtain ⟨_, e3⟩ := List.getElem?_eq_some_iff.1 e2
      simp only [List.getElem_toArray]
      rw [e3])
    have Hc7 : Hid (Chg Nob w w7) := (show Chg Nob w w7 from (Hc1.out.any (S := At1 g)).trans1 (Hc6.out.trans1 hc7) |>.mono (fun i hi e => by have e : i = g := e; have := Hg.out; omega))
    have HT7 : Hid (∃ cs, w7.heap[g]? = some (.cells cs 3 m0')) := (show ∃ cs, w7.heap[g]? = some (.cells cs 3 m0') by
      obtain ⟨cs1, h1⟩ := HT6.out
      rw [hw7]
      exact putRow_type ((chg_ahead w6 q7).at h1 (fun e => e)) 0 _)
    clear hw7 hcomp hc7
    go_wp2_with fail
    go_ret
    exact ⟨Hc7.out, some ⟨g, 0, none⟩, cap, rfl, ⟨fun j x hx => ⟨_, rfl, by rw [Go.WideShapes.add_plain]; exact Ht.out j x hx⟩, fun _ => by obtain ⟨cs, h⟩ := HT7.out; exact ⟨g, cs, _, rfl, Hg.out.1, h⟩⟩, fun e => by cases e⟩
end
end Go.Proofs.YtkgfdgfhpdhhaaaGreat
namespace Go.Proofs.YtkgfdgfhpdhhaaaGreat
open Go.ChangeShapes Go.WideShapes Go.RowKit
attribute [local go_sem] Oper.semAt_some
def zeroM : List Value := [.int .u64 0, .int .u64 0, .slice none 0 0]
theorem Tryz.info75m : (Tryz.prog.info? 75).map (fun i => (i.zero, i.size, i.bytes)) = some (some (.agg zeroM.toArray), 3, 40) := by kernel_rfl
theorem info75_parts : ∃ i, Tryz.prog.info? 75 = some i ∧ i.zero = some (.agg zeroM.toArray) ∧ i.size = 3 ∧ i.bytes = 40 := by
  have h := Tryz.info75m
  cases hi : Tryz.prog.info? 75 with
  | none => rw [hi] at h; simp at h
  | some i => rw [hi] at h; simp at h; exact ⟨i, rfl, h.1, h.2.1, h.2.2⟩
theorem append75 {B : Nat} {w : World} {v : Value} {n : Nat} {xs ys : List Value} {g : Nat} {c : Nat} (h : w.ownsRow B 75 3 v n xs) (hB : B ≤ w.heap.size) (hn : n ≤ 100000000) (hy : ys.length = 3) (h1 : ∀ u ∈ ys, u.oneCell' = true) (hg : w.heap[g]? = some (.cells ys.toArray c (0, 0))) :
    ∃ g' cap w', (Builtin.append_ #[67, 67] 67 #[v, .slice (some ⟨g, 0, none⟩) 1 1]).run Tryz.prog w = .ok (.slice (some ⟨g', 0, none⟩) (n + 1) cap) w' ∧ w'.ownsRow B 75 3 (.slice (some ⟨g', 0, none⟩) (n + 1) cap) (n + 1) (xs ++ ys) ∧ w.grownBy w' v.ownBlock ∧ (v.ownBlock = some g' ∨ g' = w.heap.size) ∧ g' < w'.heap.size := by
  obtain ⟨i, hi, hz, hs, hb⟩ := info75_parts
  exact run_append_lies (P := Tryz.prog) w 67 67 B 75 i _ 3 40 Tryz.underlying67 hi hz hs hb rfl (by decide) v n _ h ⟨g, 0, none⟩ 1 1 ys hy
    (fun j u hj => by rw [Go.WideShapes.add_plain, Nat.zero_add]; exact cell_row hg j (by simpa using hj)) h1 (by decide) (by unfold maxLen; omega) (by omega) hB _ rfl
abbrev MvS := Mvi × Option Addr × Nat
def cellsM (x : MvS) : List Value := [.int .u64 x.1.yes, .int .u64 x.1.no, .slice x.2.1 x.1.to.length x.2.2]
theorem cellsM_one (x : MvS) : ∀ u ∈ cellsM x, u.oneCell' = true := by
  intro u hu
  simp [cellsM] at hu
  rcases hu with rfl | rfl | rfl <;> rfl
theorem flatM_at : ∀ {l : List MvS} {j : Nat} {x : MvS}, l[j]? = some x → ∀ {q : Nat}, q < 3 → (l.flatMap cellsM)[j * 3 + q]? = (cellsM x)[q]?
  | [], _, _, h, _, _ => by simp at h
  | y :: l, 0, x, h, q, hq => by
    obtain rfl : y = x := by simpa using h
    rw [List.flatMap_cons, Nat.zero_mul, Nat.zero_add, List.getElem?_append_left (by simpa [cellsM] using hq)]
  | y :: l, j + 1, x, h, q, hq => by
    rw [List.flatMap_cons, List.getElem?_append_right (by simp [cellsM]; omega)]
    have := flatM_at (l := l) (j := j) (x := x) (by simpa using h) hq
    rw [← this]
    congr 1
    simp [cellsM]
    omega
structure MOwn (W : World) (lo : Nat) (sl : Value) (ms : List Mvi) (xs : List MvS) : Prop where
  own : W.ownsRow lo 75 3 sl ms.length (xs.flatMap cellsM)
  fst : xs.map (·.1) = ms
  tos : ∀ x ∈ xs, x.1.to.length ≤ 2000000 ∧ TRow W 0 x.2.1 x.1.to ∧ (x.2.1 = none → x.2.2 = 0)
theorem TRow.typed {S : Nat → Prop} {W W' : World} {lo : Nat} {ao : Option Addr} {l : List Int} (h : TRow W lo ao l) (hc : Chg S W W') (hs : ∀ q, S q → ∀ cs m, W.heap[q]? ≠ some (.cells cs 3 m)) : TRow W' lo ao l := by
  refine ⟨fun j x hj => ?_, fun hne => ?_⟩
  · obtain ⟨a, e, c⟩ := h.1 j x hj
    obtain ⟨g, cs, m, e2, _, hb⟩ := h.2 (fun e => by rw [e] at hj; simp at hj)
    rw [e] at e2
    cases e2
    refine ⟨_, e, hc.cell' c ?_⟩
    rw [Go.WideShapes.add_plain]
    exact fun hq => hs g hq cs m hb
  · obtain ⟨g, cs, m, e2, hlo, hb⟩ := h.2 hne
    exact ⟨g, cs, m, e2, hlo, hc.at hb (fun hq => hs g hq cs m hb)⟩
theorem TRow.nob {W W' : World} {lo : Nat} {ao : Option Addr} {l : List Int} (h : TRow W lo ao l) (hc : Chg Nob W W') : TRow W' lo ao l := h.typed hc (fun _ e => e.elim)
theorem TRow.low {W : World} {lo lo' : Nat} {ao : Option Addr} {l : List Int} (h : TRow W lo ao l) (hl : lo' ≤ lo) : TRow W lo' ao l :=
  ⟨h.1, fun hne => by obtain ⟨g, cs, m, e, hlo, hb⟩ := h.2 hne; exact ⟨g, cs, m, e, Nat.le_trans hl hlo, hb⟩⟩
theorem MOwn.nob {W W' : World} {lo : Nat} {sl : Value} {ms : List Mvi} {xs : List MvS} (h : MOwn W lo sl ms xs) (hc : Chg Nob W W') : MOwn W' lo sl ms xs :=
  ⟨ownsRow_chg h.own hc (fun _ _ e => e), h.fst, fun x hx => by obtain ⟨a, b, c⟩ := h.tos x hx; exact ⟨a, b.nob hc, c⟩⟩
theorem MOwn.row {W : World} {lo : Nat} {sl : Value} {ms : List Mvi} {xs : List MvS} (h : MOwn W lo sl ms xs) : ∃ ao c, sl = .slice ao ms.length c ∧ MRow W ao ms := by
  rcases Nat.eq_zero_or_pos ms.length with h0 | hpos
  · obtain ⟨ao, c, e⟩ := ownsRow_shape h.own
    refine ⟨ao, c, e, fun j m hj => ?_⟩
    rw [List.length_eq_zero_iff.1 h0] at hj
    simp at hj
  · obtain ⟨g, c, rfl, hc⟩ := ownsRow_some h.own hpos
    refine ⟨_, c, rfl, fun j m hj => ?_⟩
    have hx : (xs.map (·.1))[j]? = some m := by rw [h.fst]; exact hj
    rw [List.getElem?_map] at hx
    cases hxj : xs[j]? with
    | none => rw [hxj] at hx; cases hx
    | some x =>
      rw [hxj] at hx
      obtain rfl : x.1 = m := by simpa using hx
      obtain ⟨t1, t2, _⟩ := h.tos x (List.mem_of_getElem? hxj)
      have q0 := hc (j * 3 + 0) _ ((flatM_at hxj (q := 0) (by decide)).trans rfl)
      have q1 := hc (j * 3 + 1) _ ((flatM_at hxj (q := 1) (by decide)).trans rfl)
      have q2 := hc (j * 3 + 2) _ ((flatM_at hxj (q := 2) (by decide)).trans rfl)
      rw [Go.WideShapes.add_plain] at q0 q1 q2
      exact ⟨g, 0, x.2.1, x.2.2, rfl, q0, q1, q2, t1, t2.1⟩
end Go.Proofs.YtkgfdgfhpdhhaaaGreat
