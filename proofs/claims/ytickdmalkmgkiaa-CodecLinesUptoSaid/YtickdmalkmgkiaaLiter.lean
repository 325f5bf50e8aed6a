/- The iterator over a text's lines. Conditions: as each theorem states. -/
import Derived.Test.YtickdmalkmgkiaaLplain
import Derived.Test.YtickdmalkmgkiaaKnown
import Derived.RangeFuncNested
import Derived.RangeFuncBound
import Derived.RangeFuncCalls
import Derived.RangeFuncLeaves
import Derived.Shelf.Abstract
import Derived.WalkKit
import Derived.OwnWalkIn
import Derived.TacticsInMore
import Derived.LoopNIn
import Derived.LoopIn
import Derived.BigQuiet
namespace Go.Proofs.Ytickdmalkmgkiaa
open Go.ChangeShapes Go.WideShapes Go.RowKit Go.Shelf

attribute [local go_sem] Oper.semAt_some

theorem ext_take (l : List UInt8) (n : Nat) : (⟨l.toArray⟩ : ByteArray).extract 0 n = ⟨(l.take n).toArray⟩ := by
  apply ByteArray.ext
  apply Array.ext'
  rw [ByteArray.data_extract, Array.toList_extract]
  simp [List.extract]
theorem ext_drop (l : List UInt8) (n : Nat) : (⟨l.toArray⟩ : ByteArray).extract n l.length = ⟨(l.drop n).toArray⟩ := by
  apply ByteArray.ext
  apply Array.ext'
  rw [ByteArray.data_extract, Array.toList_extract]
  simp only [List.extract]
  exact List.take_of_length_le (by simp)
def strLen : Value → Nat
  | .string b => b.size
  | _ => 0
theorem strLen_mk (l : List UInt8) : strLen (.string ⟨l.toArray⟩) = l.length := by show l.toArray.size = _; simp
theorem abides_drewN {β : Type} {n : Nat} {J : β → World → Prop} (h : AbidesFrom n J) {s : β} {W : World} (hs : J s W) (k : Nat) : J s (W.drewN k) :=
  h s W _ none hs ⟨rfl, rfl, rfl, Nat.le_refl _, fun _ _ _ => rfl⟩ (fun r e => by cases e)

set_option maxRecDepth 100000 in
set_option maxHeartbeats 2000000 in
theorem lines1_in (n : Nat) (hn : 1 ≤ n) (l Bs : Nat) (s : List UInt8) (hs : s.length ≤ 9223372036854775806) (J Jx : List (List UInt8) → World → Prop)
    (hY : ∀ pre x W, J pre W → pre.length < (linesL [] s).length → YieldAt Fence.wide (n - 1) Try.prog l #[.string ⟨x.toArray⟩] W fun e W' =>
      (e = .returned (.bool true) ∧ J (pre ++ [x]) W' ∧ True) ∨ (e = .returned (.bool false) ∧ Jx (pre ++ [x]) W'))
    (W : World) (hBs : W.cell? ⟨Bs, 0, none⟩ = some (.string ⟨s.toArray⟩)) (hJ : AbidesFrom W.heap.size J) (h0 : J [] W) :
    CallsIn Fence.wide n Try.prog 51 #[.func (.yield l) #[] #[], .pointer (some ⟨Bs, 0, none⟩)] W fun e W' => (∃ v, e = .returned v) ∧
      ((∃ ys, ys = linesL [] s ∧ J ys W') ∨ (∃ pre, pre <+: linesL [] s ∧ Jx pre W')) := by
  refine callsIn_of_wp Try.func51 rfl trivial ?_ rfl
  simp only [Try.ntmps51, List.size_toArray, List.length_cons, List.length_nil, Nat.reduceAdd, Nat.reduceSub, Array.replicate_succ, Array.replicate_zero, List.push_toArray, List.append_toArray, List.nil_append, List.cons_append]
  gi_wp2
  have HY := Lib.hid hY
  clear hY
  gi_loopw [3] (fun i wr => ∃ left pre, i = .string ⟨left.toArray⟩ ∧ Hid (linesL [] s = pre ++ linesL [] left) ∧ left.length ≤ s.length ∧ J pre wr) (fun i _ => strLen i)
  case atStart => exact ⟨s, [], rfl, rfl, Nat.le_refl _, h0⟩
  case round =>
    obtain ⟨left, pre, rfl, hlin, hlen, hJs⟩ := hrel
    have hsz : (⟨left.toArray⟩ : ByteArray).size = left.length := by show left.toArray.size = _; simp
    by_cases hnil : left = []
    · subst hnil
      gi_wp2
      go_end0
      exact ⟨⟨_, rfl⟩, .inl ⟨pre, by rw [hlin.out, linesL_nil, List.append_nil], hJs⟩⟩
    · have hne : (left == []) = false := by rw [beq_eq_false_iff_ne]; exact hnil
      have hidx := idx_any ⟨left.toArray⟩ wr
      have hdl : (⟨left.toArray⟩ : ByteArray).data.toList = left := rfl
      rw [hdl] at hidx
      rcases idx_split left with ⟨h1, h2⟩ | ⟨k, h1, h2, h3, h4⟩
      · rw [h1] at hidx
        have hlast := linesL_last left [] h2 (by simpa using hnil)
        rw [List.nil_append] at hlast
        have Hl : Hid (linesL [] s = pre ++ [left]) := by
          show _ = _
          rw [hlin.out, hlast]
        have hy := HY.out pre left wr hJs (by rw [Hl.out]; simp)
        obtain ⟨fn, tmps, assign, body, hyr, hR⟩ := hy
        clear hlast hlin h1 h2
        gi_wp2
        refine ⟨trivial, (callsIn_wide.2 hidx).mono ?_⟩
        clear hidx
        rintro e w5 ⟨rfl, rfl⟩
        gi_wp2
        refine hR.mono ?_
        rintro e W3 (⟨rfl, hJ3, _⟩ | ⟨rfl, hJx3⟩)
        · gi_wp2
          go_roundw
          case rel => exact ⟨[], _, rfl, by show _ = _; rw [Hl.out, linesL_nil, List.append_nil], by simp, hJ3⟩
          case measure =>
            rw [strLen_mk]
            show 0 < left.length
            exact List.length_pos_iff.2 hnil
        · gi_wp2
          refine bodyPost_ret (results_none rfl _ _ _) rfl ?_
          exact ⟨⟨_, rfl⟩, .inr ⟨_, by rw [Hl.out]; exact List.prefix_refl _, hJx3⟩⟩
      · rw [h1] at hidx
        have hfeed := linesL_feed (left.take k) [] (left.drop (k + 1)) h3
        rw [← h4, List.nil_append] at hfeed
        have Hl : Hid (linesL [] s = pre ++ [left.take k] ++ linesL [] (left.drop (k + 1))) := by
          show _ = _
          rw [hlin.out, hfeed]; simp
        have e1 := ext_take left k
        have e2 := ext_drop left (k + 1)
        have hk0 : (0 : Int) ≤ (k : Int) := by omega
        have hk1 : (k : Int) ≤ (left.length : Int) := by omega
        have hk2 : (k : Int) + 1 ≤ (left.length : Int) := by omega
        have hw1 : wrap64 ((k : Int) + 1) = (k : Int) + 1 := by unfold wrap64; omega
        clear hfeed hlin h1 h3 h4
        gi_wp2
        refine ⟨trivial, (callsIn_wide.2 hidx).mono ?_⟩
        clear hidx
        rintro e w5 ⟨rfl, rfl⟩
        gi_wp2
        refine wpIn_wide.2 ?_
        go_quiet (fail)
        rename_i nq
        have hy := HY.out pre (left.take k) (wr.drewN nq) (abides_drewN hJ hJs nq) (by rw [Hl.out]; simp)
        obtain ⟨fn, tmps, assign, body, hyr, hR⟩ := hy
        gi_wp2
        refine hR.mono ?_
        rintro e W3 (⟨rfl, hJ3, _⟩ | ⟨rfl, hJx3⟩)
        · gi_wp2
          go_roundw
          case rel => exact ⟨left.drop (k + 1), _, rfl, Hl, by rw [List.length_drop]; omega, hJ3⟩
          case measure =>
            rw [strLen_mk, strLen_mk, List.length_drop]
            omega
        · gi_wp2
          refine bodyPost_ret (results_none rfl _ _ _) rfl ?_
          exact ⟨⟨_, rfl⟩, .inr ⟨_, by rw [Hl.out]; exact List.prefix_append _ _, hJx3⟩⟩

/-- codec.Lines's iterator: for every body. -/
theorem lines_stops (n : Nat) (hn : 1 ≤ n) (Bs : Nat) (s : List UInt8) (hs : s.length ≤ 9223372036854775806) (w : World) (hBs : w.cell? ⟨Bs, 0, none⟩ = some (.string ⟨s.toArray⟩)) (hlt : Bs < w.heap.size) :
    SeqStopsK Fence.wide n Try.prog 51 #[.pointer (some ⟨Bs, 0, none⟩)] (fun x => #[.string ⟨x.toArray⟩]) (fun _ _ => True) (fun xs => xs = linesL [] s) (fun pre => pre <+: linesL [] s) (linesL [] s).length w :=
  fun l J Jx W hW hJ _ hY h0 => lines1_in n hn l Bs s hs J Jx hY W ((hW.cell (p := ⟨Bs, 0, none⟩) hlt).trans hBs) hJ h0
end Go.Proofs.Ytickdmalkmgkiaa
