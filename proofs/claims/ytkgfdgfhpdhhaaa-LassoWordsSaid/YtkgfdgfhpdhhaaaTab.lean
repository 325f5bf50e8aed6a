/- Rows of truths; what a table's helpers make. Conditions: the table lies in the world. -/
import Derived.Test.YtkgfdgfhpdhhaaaLasso
import Derived.Laws.MakeOwn
import Derived.Test.YtkgfdgfhpdhhaaaFree
namespace Go.Proofs.Ytkgfdgfhpdhhaaa
open Go.ChangeShapes Go.WideShapes Go.RowKit

def bcells (L : List Bool) : Array Value := (L.map Value.bool).toArray
/-- A row of truths that lies in a block of its own. -/
def BBlk (W : World) (g : Nat) (L : List Bool) : Prop := W.heap[g]? = some (.cells (bcells L) 4 (0, 0))
theorem BBlk.cell {W : World} {g : Nat} {L : List Bool} (h : BBlk W g L) {j : Nat} {x : Bool} (hj : L[j]? = some x) : W.cell? ⟨g, j, none⟩ = some (.bool x) :=
  cell_row h j (by unfold bcells; simp [hj])
theorem BBlk.free {W : World} {g : Nat} {L : List Bool} (h : BBlk W g L) (j : Nat) : W.frozen? ⟨g, j, none⟩ = false := by
  unfold World.frozen?
  rw [h]
  simp
theorem BBlk.set {W : World} {g : Nat} {L : List Bool} (h : BBlk W g L) (j : Nat) (x : Bool) : BBlk (W.setCell ⟨g, j, none⟩ (.bool x)) g (L.set j x) := by
  unfold BBlk at *
  simp only [World.setCell, Array.getElem?_modify, h, if_true, Option.map_some, bcells]
  congr 3
  rw [List.map_set]
  simp [List.setIfInBounds_toArray]
theorem BBlk.chg {S : Nat → Prop} {W W' : World} {g : Nat} {L : List Bool} (h : BBlk W g L) (hc : Chg S W W') (hn : ¬ S g) : BBlk W' g L := hc.at h hn
theorem BBlk.lt {W : World} {g : Nat} {L : List Bool} (h : BBlk W g L) : g < W.heap.size := (Array.getElem?_eq_some_iff.1 h).1
theorem Try.info4 : (Try.prog.info? 4).map (fun i => (i.zero, i.size, i.bytes)) = some (some (.bool false), 1, 1) := by kernel_rfl
theorem made_bools (n : Nat) : madeCells (Value.cells (.bool false)) (n * 1) = bcells (List.replicate n false) := by
  rw [Nat.mul_one]
  show (Array.range n).map (fun _ => _) = _
  unfold bcells
  apply Array.ext
  · simp
  · intro i h1 h2
    simp [Value.cells, Nat.mod_one]
theorem make116 (n : Nat) (hn : n ≤ 10000) (w : World) : (Instr.makeSlice 116 (.int .i64 (n : Int)) (.int .i64 (n : Int))).run Try.prog w = .ok (.slice (some ⟨w.heap.size, 0, none⟩) n n) (w.alloc (.cells (bcells (List.replicate n false)) 4)) := by
  have h := Try.info4
  cases hi : Try.prog.info? 4 with
  | none => rw [hi] at h; simp at h
  | some i =>
    rw [hi] at h
    simp at h
    have hr := run_makeSlice (P := Try.prog) (w := w) 116 4 i (.bool false) Try.underlying116 hi h.1 .i64 .i64 (n : Int) (n : Int) (by omega) (Int.le_refl _) (by rw [h.2.1]; simp; omega) (by rw [h.2.2]; omega) (by omega)
    rw [h.2.1, Int.toNat_natCast, made_bools] at hr
    exact hr
def TabIs (W : World) (tb : Nat) (nv : Value) (ap : Option Addr) (np cp : Nat) (al : Option Addr) (nl cl n : Nat) : Prop := W.heap[tb]? = some (.cells #[nv, .slice ap np cp, .slice al nl cl, .int .i64 (n : Int)] 147 (0, 0))
theorem TabIs.cells {W : World} {tb : Nat} {nv : Value} {ap : Option Addr} {np cp : Nat} {al : Option Addr} {nl cl n : Nat} (h : TabIs W tb nv ap np cp al nl cl n) :
    W.cell? ⟨tb, 0, none⟩ = some nv ∧ W.cell? ⟨tb, 1, none⟩ = some (.slice ap np cp) ∧ W.cell? ⟨tb, 2, none⟩ = some (.slice al nl cl) ∧ W.cell? ⟨tb, 3, none⟩ = some (.int .i64 (n : Int)) := by
  unfold TabIs at h
  simp [World.cell?, h]
section
variable {tb : Nat} {nv : Value} {ap al : Option Addr} {np cp nl cl n : Nat} {w : World}
set_option maxRecDepth 100000 in
set_option maxHeartbeats 2000000 in
theorem tnext_any (hT : TabIs w tb nv ap np cp al nl cl n) (i : Nat) (hi : i < n) (hn : n ≤ 10000) (hnp : np ≤ 10000) (r : Nat) (hr : r = if i + 1 = n then np else i + 1) :
    Calls Try.prog 123 #[.pointer (some ⟨tb, 0, none⟩), .int .i64 (i : Int)] w fun e w' => e = .returned (.int .i64 (r : Int)) ∧ w' = w := by
  obtain ⟨t0, t1, t2, t3⟩ := hT.cells
  clear hT
  have hi0 : (0 : Int) ≤ (i : Int) := by omega
  have hi1 : (i : Int) + 1 ≤ 10000 := by omega
  by_cases h : i + 1 = n
  · have hb : ((i : Int) + 1 == (n : Int)) = true := by rw [beq_iff_eq]; omega
    rw [if_pos h] at hr
    subst hr
    clear h hi
    go_enter Try.func123, Try.ntmps123
    go_wp2
    go_ret
    exact ⟨rfl, rfl⟩
  · have hb : ((i : Int) + 1 == (n : Int)) = false := by rw [beq_eq_false_iff_ne]; omega
    have hri : (i : Int) + 1 = (r : Int) := by rw [if_neg h] at hr; omega
    clear h hi hr
    go_enter Try.func123, Try.ntmps123
    go_wp2
    go_ret
    exact ⟨by rw [← hri]; rfl, rfl⟩
set_option maxRecDepth 100000 in
set_option maxHeartbeats 4000000 in
theorem each_any (hT : TabIs w tb nv ap np cp al nl cl n) (hn : n ≤ 10000) (k : Nat) (caps : Array Value) (hent : ∀ args w, (callFunc k args).run Try.prog w = .ok (.enter k args) w) (s : Nat → Bool) (hs : ∀ i, i < n → ∀ W, Chg Nob w W → Calls Try.prog k (#[.int .i64 (i : Int)] ++ caps) W fun e W' => e = .returned (.bool (s i)) ∧ Chg Nob W W') :
    Calls Try.prog 117 #[.pointer (some ⟨tb, 0, none⟩), .func (.func k) #[] caps] w fun e w' => Chg Nob w w' ∧ ∃ g, w.heap.size ≤ g ∧ e = .returned (.slice (some ⟨g, 0, none⟩) n n) ∧ BBlk w' g ((List.range n).map s) := by
  obtain ⟨t0, t1, t2, t3⟩ := hT.cells
  have HT := Lib.hid hT
  have Hs := Lib.hid hs
  have hmk := make116 n hn
  have hni : (n : Int) ≤ 10000 := by omega
  clear hT hs
  go_enter Try.func117, Try.ntmps117
  go_wp2_with fail
  clear hmk t0 t1 t2 t3
  have hW : Chg Nob w (w.alloc (.cells (bcells (List.replicate n false)) 4)) := (Chg.refl _ _).alloc _
  have hb : BBlk (w.alloc (.cells (bcells (List.replicate n false)) 4)) w.heap.size (List.replicate n false) := heap_alloc_new _ _
  have HW := Lib.hid hW
  have Hb := Lib.hid hb
  have hsz : (w.alloc (.cells (bcells (List.replicate n false)) 4)).heap.size = w.heap.size + 1 := World.size_alloc _ _
  have Hsz := Lib.hid hsz
  clear hW hb hsz
  generalize (w.alloc (.cells (bcells (List.replicate n false)) 4)) = W0 at *
  go_loopw [6, 14] (fun _ iv wr => ∃ i : Nat, iv = .int .i64 (i : Int) ∧ i ≤ n ∧ Chg (At1 w.heap.size) W0 wr ∧ ∃ L, Hid (BBlk wr w.heap.size L ∧ L.length = n ∧ ∀ j, j < i → L[j]? = some (s j))) (fun _ iv _ => n - (intOf iv).toNat)
  case atStart => exact ⟨0, rfl, Nat.zero_le _, Chg.refl _ _, _, Hb.out, List.length_replicate, fun j h => absurd h (Nat.not_lt_zero j)⟩
  case round =>
    obtain ⟨i, rfl, hi, hcr, L, hL⟩ := hrel
    by_cases hlt : i < n
    · have hii : (i : Int) < (n : Int) := by omega
      have hi0 : (0 : Int) ≤ (i : Int) := by omega
      have hcw : Chg Nob w wr := HW.out.trans hcr (fun k hk e => by have e : k = w.heap.size := e; omega)
      have hp := Hs.out i hlt wr hcw
      have Hp := Lib.hid hp
      clear hp
      obtain ⟨hB, hLl, hLs⟩ := hL.out
      have HB := Lib.hid hB
      have HLs : Hid (∀ j, j < i + 1 → (L.set i (s i))[j]? = some (s j)) := (show ∀ j, j < i + 1 → (L.set i (s i))[j]? = some (s j) from fun j hj => by
        by_cases e : j = i
        · subst e; rw [List.getElem?_set_self (by omega)]
        · rw [List.getElem?_set_ne (Ne.symm e)]; exact hLs j (by omega))
      have HLl : Hid ((L.set i (s i)).length = n) := (show (L.set i (s i)).length = n by rw [List.length_set]; exact hLl)
      obtain ⟨x, hx⟩ : ∃ x, L[i]? = some x := ⟨_, List.getElem?_eq_getElem (by omega)⟩
      have Hx := Lib.hid hx
      clear hB hLl hLs hL hx
      go_wp2_with fail
      (with_reducible refine Hp.out.mono ?_)
      clear Hp
      rintro e W' ⟨rfl, hcW'⟩
      have hB' := HB.out.chg hcW' (fun e => e)
      have c0 := hB'.cell Hx.out
      have f0 := hB'.free i
      have HB2 := Lib.hid (hB'.set i (s i))
      have hset : Chg (At1 w.heap.size) W0 (W'.setCell ⟨w.heap.size, i, none⟩ (.bool (s i))) := (hcr.trans1 hcW'.any).setCell (p := ⟨w.heap.size, i, none⟩) (fun _ => rfl) _
      have Hset := Lib.hid hset
      clear hB' hset hcW' hcr hcw
      go_wp2_with fail
      go_roundw
      case rel => exact ⟨i + 1, by go_num, by omega, Hset.out, _, HB2.out, HLl.out, HLs.out⟩
      case measure => simp [intOf]; omega
    · obtain rfl : i = n := by omega
      obtain ⟨hB, hLl, hLs⟩ := hL.out
      have hLe : L = (List.range i).map s := by
        refine List.ext_getElem? (fun j => ?_)
        rcases Nat.lt_or_ge j i with h | h
        · rw [hLs j h, List.getElem?_map, List.getElem?_range h]; rfl
        · rw [List.getElem?_eq_none_iff.2 (by omega), List.getElem?_eq_none_iff.2 (by rw [List.length_map, List.length_range]; omega)]
      have HB : Hid (BBlk wr w.heap.size ((List.range i).map s)) := (show BBlk wr w.heap.size _ from hLe ▸ hB)
      have Hc : Hid (Chg Nob w wr) := (show Chg Nob w wr from HW.out.trans hcr (fun k hk e => by have e : k = w.heap.size := e; omega))
      clear hB hLl hLs hL hLe hcr
      go_wp2
      go_ret
      exact ⟨Hc.out, _, Nat.le_refl _, rfl, HB.out⟩
end
end Go.Proofs.Ytkgfdgfhpdhhaaa
