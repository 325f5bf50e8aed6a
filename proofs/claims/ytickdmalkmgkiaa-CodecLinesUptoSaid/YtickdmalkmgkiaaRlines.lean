/- sextantref01.Lines. Condition: the text is no longer than 1000000000 bytes. -/
import Derived.Test.YtickdmalkmgkiaaLiter
import Derived.Test.YtickdmalkmgkiaaRput
import Derived.Deep.DeepAppendWide
namespace Go.Proofs.Ytickdmalkmgkiaa
open Go.ChangeShapes Go.WideShapes Go.RowKit

theorem Try.info9 : (Try.prog.info? 9).map (fun i => (i.zero, i.size, i.bytes)) = some (some (.string ByteArray.empty), 1, 16) := by kernel_rfl
theorem info9_parts : ∃ i, Try.prog.info? 9 = some i ∧ i.zero = some (.string ByteArray.empty) ∧ i.size = 1 ∧ i.bytes = 16 := by
  have h := Try.info9
  cases hi : Try.prog.info? 9 with
  | none => rw [hi] at h; simp at h
  | some i => rw [hi] at h; simp at h; exact ⟨i, rfl, h.1, h.2.1, h.2.2⟩
def strV (x : List UInt8) : Value := .string ⟨x.toArray⟩
/-- A text behind a row of texts. -/
theorem append_text {B : Nat} {w : World} {v : Value} {M : List (List UInt8)} {x : List UInt8} {g : Nat} (h : w.ownsRow B 9 1 v M.length (M.map strV)) (hB : B ≤ w.heap.size) (hM : M.length ≤ 1000000000) (hg : w.cell? ⟨g, 0, none⟩ = some (strV x)) :
    ∃ v' w', (Builtin.append_ #[32, 32] 32 #[v, .slice (some ⟨g, 0, none⟩) 1 1]).run Try.prog w = .ok v' w' ∧ w'.ownsRow B 9 1 v' (M ++ [x]).length ((M ++ [x]).map strV) ∧ w.grownBy w' v.ownBlock := by
  obtain ⟨i, hi, hz, hs, hb⟩ := info9_parts
  obtain ⟨v', w', h1, h2, h3, _⟩ := run_append_own_wide (P := Try.prog) w B 32 32 9 i _ 1 16 Try.underlying32 hi hz hs hb rfl (by decide) v M.length _ h ⟨g, 0, none⟩ 1 1 [strV x] rfl
    (fun j u hj => by
      have hj0 : j = 0 := by have := (List.getElem?_eq_some_iff.1 hj).1; simpa using this
      subst hj0
      simp at hj
      subst hj
      rw [Go.WideShapes.add_plain]
      exact hg) (fun u hu => by simp at hu; subst hu; rfl) (by unfold maxLen; omega) (by omega) hB
  refine ⟨v', w', h1, ?_, h3⟩
  rw [List.length_append, List.map_append]
  exact h2

/-- So much of the text has been looked at. -/
def RlRel (w : World) (s : List UInt8) (v from_ i : Value) (wr : World) : Prop :=
  ∃ (M : List (List UInt8)) (f k : Nat), from_ = .int .i64 f ∧ i = .int .i64 k ∧ f ≤ k ∧ k ≤ s.length ∧ M.length ≤ k ∧ Hid (linesL [] s = M ++ linesL ((s.take k).drop f) (s.drop k)) ∧ wr.ownsRow w.heap.size 9 1 v M.length (M.map strV) ∧ Chg Nob w wr

theorem ext_mid (l : List UInt8) (f k : Nat) : (⟨l.toArray⟩ : ByteArray).extract f k = ⟨((l.take k).drop f).toArray⟩ := by
  apply ByteArray.ext
  apply Array.ext'
  rw [ByteArray.data_extract, Array.toList_extract]
  simp [List.extract, List.drop_take]

def RlPost (s : List UInt8) (w : World) (e : Ending) (w' : World) : Prop :=
  Chg Nob w w' ∧ ∃ v, e = .returned v ∧ w'.ownsRow w.heap.size 9 1 v (linesL [] s).length ((linesL [] s).map strV)

set_option maxRecDepth 100000 in
set_option maxHeartbeats 4000000 in
theorem rlines_any (s : List UInt8) (hs : s.length ≤ 1000000000) (w : World) : Calls Try.prog 20 #[.string ⟨s.toArray⟩] w (RlPost s w) := by
  have hsz : (⟨s.toArray⟩ : ByteArray).size = s.length := by show s.toArray.size = _; simp
  go_enter Try.func20, Try.ntmps20
  go_wp2_with fail
  go_loopw [3, 4, 5] (fun v f i wr => RlRel w s v f i wr) (fun _ _ i _ => s.length - (intOf i).toNat)
  case atStart => exact ⟨[], 0, 0, rfl, rfl, Nat.le_refl _, Nat.zero_le _, Nat.le_refl _, by show _ = _; simp, World.ownsRow_nil _ _ _ _, Chg.refl _ _⟩
  case round =>
    obtain ⟨M, f, k, rfl, rfl, hfk, hks, hMk, hlin, hown, hc⟩ := hrel
    obtain ⟨ao, cp, rfl⟩ := ownsRow_shape hown
    by_cases hlt : k < s.length
    · have hlt2 : k < (⟨s.toArray⟩ : ByteArray).size := by omega
      obtain ⟨y, hy⟩ : ∃ y, (⟨s.toArray⟩ : ByteArray)[k]'hlt2 = y := ⟨_, rfl⟩
      have hyl : s[k]? = some y := by
        have h2 := Lib.data_getElem? (⟨s.toArray⟩ : ByteArray) _ hlt2
        rw [hy] at h2
        exact h2
      have hd : s.drop k = y :: s.drop (k + 1) := drop_at hyl
      have hki : (k : Int) < (s.length : Int) := by omega
      have hk0 : (0 : Int) ≤ (k : Int) := by omega
      cases hten : ((y.toNat : Int) == 10) with
      | true =>
        have hy10 : y = 10 := UInt8.toNat_inj.1 (by rw [beq_iff_eq] at hten; have : (10 : UInt8).toNat = 10 := rfl; omega)
        have Hl : Hid (linesL [] s = (M ++ [(s.take k).drop f]) ++ linesL ((s.take (k + 1)).drop (k + 1)) (s.drop (k + 1))) := by
          show _ = _
          rw [hlin.out, hd, linesL, if_pos hy10, List.drop_of_length_le (List.length_take_le _ _)]
          simp
        have hex := ext_mid s f k
        have hnew := heap_alloc_new wr (.cells #[strV ((s.take k).drop f)] 9)
        obtain ⟨v', w', hap, hown', hgr⟩ := append_text (x := (s.take k).drop f) (ownsRow_chg hown ((Chg.refl Nob wr).alloc (.cells #[strV ((s.take k).drop f)] 9)) (fun _ _ e => e)) (by rw [World.size_alloc]; have := hc.size; omega) (by omega) (cell_row hnew 0 rfl)
        have hcw : Chg Nob w w' := (hc.alloc _).grown hgr (fun k' hk' hlt' => by have := (hown.lt k' hk').1; omega)
        have Hap := Lib.hid hap
        have Hown := Lib.hid hown'
        have Hcw := Lib.hid hcw
        have hfi : (f : Int) ≤ (k : Int) := by omega
        have hf0 : (0 : Int) ≤ (f : Int) := by omega
        have hkl : (k : Int) ≤ (s.length : Int) := by omega
        clear hown hc hlin hd hyl hnew hap hown' hgr hcw hy10
        unfold strV at Hap
        go_wp2_with (refine wpList_append_known rfl _ _ 32 32 rfl _ _ rfl rfl v' w' Hap.out ?_)
        go_roundw
        case rel => exact ⟨_, k + 1, k + 1, by go_num, by go_num, Nat.le_refl _, by omega, by rw [List.length_append]; simp; omega, Hl, Hown.out, Hcw.out⟩
        case measure => simp [intOf]; omega
      | false =>
        have hy10 : ¬ y = 10 := fun e => by subst e; revert hten; decide
        have Hl : Hid (linesL [] s = M ++ linesL ((s.take (k + 1)).drop f) (s.drop (k + 1))) := by
          show _ = _
          rw [hlin.out, hd, linesL, if_neg hy10, List.take_add_one, hyl, List.drop_append]
          have : f - (List.take k s).length = 0 := by rw [List.length_take]; omega
          rw [this]
          rfl
        have Hown := Lib.hid hown
        have Hc := Lib.hid hc
        clear hown hc hlin hd hyl hy10
        go_wp2_with fail
        go_roundw
        case rel => exact ⟨M, f, k + 1, rfl, by go_num, by omega, by omega, by omega, Hl, Hown.out, Hc.out⟩
        case measure => simp [intOf]; omega
    · obtain rfl : k = s.length := by omega
      have hfi : (f : Int) ≤ (s.length : Int) := by omega
      have hf0 : (0 : Int) ≤ (f : Int) := by omega
      by_cases hf : f < s.length
      · have hfl : (f : Int) < (s.length : Int) := by omega
        have Hl : Hid (linesL [] s = M ++ [s.drop f]) := by
          show _ = _
          rw [hlin.out, List.take_length, List.drop_length, linesL, if_neg (fun e => by have := congrArg List.length e; rw [List.length_drop] at this; simp at this; omega)]
        have hex := ext_drop s f
        have hnew := heap_alloc_new wr (.cells #[strV (s.drop f)] 9)
        obtain ⟨v', w', hap, hown', hgr⟩ := append_text (x := s.drop f) (ownsRow_chg hown ((Chg.refl Nob wr).alloc (.cells #[strV (s.drop f)] 9)) (fun _ _ e => e)) (by rw [World.size_alloc]; have := hc.size; omega) (by omega) (cell_row hnew 0 rfl)
        have hcw : Chg Nob w w' := (hc.alloc _).grown hgr (fun k' hk' hlt' => by have := (hown.lt k' hk').1; omega)
        have Hap := Lib.hid hap
        have Hown := Lib.hid hown'
        have Hcw := Lib.hid hcw
        clear hown hc hlin hnew hap hown' hgr hcw
        unfold strV at Hap
        go_wp2_with (refine wpList_append_known rfl _ _ 32 32 rfl _ _ rfl rfl v' w' Hap.out ?_)
        go_ret
        exact ⟨Hcw.out, v', rfl, by rw [Hl.out]; exact Hown.out⟩
      · obtain rfl : f = s.length := by omega
        have Hl : Hid (linesL [] s = M) := by
          show _ = _
          rw [hlin.out, List.take_length, List.drop_length, linesL_nil, List.append_nil]
        have hself : ¬ ((s.length : Int) < (s.length : Int)) := by omega
        clear hlin
        go_wp2_with fail
        go_ret
        exact ⟨hc, _, rfl, by rw [Hl.out]; exact hown⟩
end Go.Proofs.Ytickdmalkmgkiaa
