/- The contract of codec Buffer Fixed. Conditions: as each theorem states. -/
import Derived.Test.YtickdmalkmgkiaaBuf
namespace Go.Proofs.Ytickdmalkmgkiaa
open Go.RowKit

def okSize (k : Int) : Bool := k == 1 || k == 2 || k == 4 || k == 8
theorem okSize_iff (k : Int) : okSize k = true ↔ k = 1 ∨ k = 2 ∨ k = 4 ∨ k = 8 := by
  simp only [okSize, Bool.or_eq_true, beq_iff_eq]; omega
set_option maxHeartbeats 400000 in
theorem sized_any (k : Int) (w : World) : Calls Try.prog 57 #[.int .i64 k] w fun e w' => e = .returned (.bool (okSize k)) ∧ w = w' := by
  by_cases h : k = 1 ∨ k = 2 ∨ k = 4 ∨ k = 8
  · rcases h with rfl | rfl | rfl | rfl
    all_goals
      go_enter Try.func57, Try.ntmps57
      go_wp2
      go_ret
      exact ⟨rfl, rfl⟩
  · have e : okSize k = false := by
      cases h2 : okSize k
      · rfl
      · exact absurd ((okSize_iff k).1 h2) h
    rw [e]
    clear e
    have h1 : (k == 1) = false := by simp; omega
    have h2 : (k == 2) = false := by simp; omega
    have h4 : (k == 4) = false := by simp; omega
    have h8 : (k == 8) = false := by simp; omega
    clear h
    go_enter Try.func57, Try.ntmps57
    go_wp2
    go_ret
    exact ⟨rfl, rfl⟩
set_option maxRecDepth 100000 in
set_option maxHeartbeats 400000 in
theorem fixed_bad (b : Nat) (n : Nat) (k : Int) (w : World) (hk : okSize k = false) :
    Calls Try.prog 43 #[.pointer (some ⟨b, 0, none⟩), .int .u64 n, .int .i64 k] w fun e w' => e = .returned (.int .i64 1) ∧ w = w' := by
  go_enter Try.func43, Try.ntmps43
  go_wp2_with fail
  with_reducible refine (sized_any _ _).mono ?_
  rintro e w1 ⟨rfl, rfl⟩
  go_wp2_with fail
  go_ret
  exact ⟨rfl, rfl⟩
set_option maxRecDepth 100000 in
set_option maxHeartbeats 400000 in
theorem fixed_big (b : Nat) (n : Nat) (k : Nat) (w : World) (hk : k = 1 ∨ k = 2 ∨ k = 4) (hn : 256 ^ k ≤ n) :
    Calls Try.prog 43 #[.pointer (some ⟨b, 0, none⟩), .int .u64 n, .int .i64 k] w fun e w' => e = .returned (.int .i64 1) ∧ w = w' := by
  rcases hk with rfl | rfl | rfl
  all_goals
    simp only [Nat.reducePow] at hn
    have hk1 : okSize 1 = true := rfl
    have hk2 : okSize 2 = true := rfl
    have hk4 : okSize 4 = true := rfl
    go_enter Try.func43, Try.ntmps43
    go_wp2_with fail
    with_reducible refine (sized_any _ _).mono ?_
    rintro e w1 ⟨rfl, rfl⟩
    go_wp2_with fail
    go_ret
    exact ⟨rfl, rfl⟩

def FixRel (B N K : Nat) (w : World) (x out i : Value) (wr : World) : Prop :=
  ∃ (m : Nat) (l : List UInt8) (j : Nat), x = .int .u64 m ∧ i = .int .i64 j ∧ l.length = j ∧ j ≤ K ∧ fixb N K = l ++ fixb m (K - j) ∧ wr.ownsRow B 5 1 out l.length (l.map bv) ∧ Below B w wr

set_option maxRecDepth 100000 in
set_option maxHeartbeats 1600000 in
theorem fixed_any (B b : Nat) (l : List UInt8) (room n k : Nat) (w : World) (hk : k = 1 ∨ k = 2 ∨ k = 4 ∨ k = 8) (hn : n < 256 ^ k) (hB : B ≤ w.heap.size) (hbuf : isBuf w B b l room) :
    Calls Try.prog 43 #[.pointer (some ⟨b, 0, none⟩), .int .u64 n, .int .i64 k] w (PutPost B b l (fixb n k) room w) := by
  obtain ⟨i0, hi, hz0, hz1, hz2⟩ := info_parts Try.info5
  have Hbuf := Lib.hid hbuf; clear hbuf
  have hk1 : okSize 1 = true := rfl
  have hk2 : okSize 2 = true := rfl
  have hk4 : okSize 4 = true := rfl
  have hk8 : okSize 8 = true := rfl
  obtain ⟨K, HK⟩ : ∃ K : Nat, Hid (K = k) := ⟨k, rfl⟩
  rcases hk with rfl | rfl | rfl | rfl
  all_goals
    simp only [Nat.reducePow] at hn
    go_enter Try.func43, Try.ntmps43
    go_wp2_with fail
    with_reducible refine (sized_any _ _).mono ?_
    rintro e w1 ⟨rfl, rfl⟩
    go_wp2_with fail
    clear hn
    go_loopw [1, 7, 27] (fun x out i wr => FixRel w.heap.size n K w x out i wr) (fun _ _ i _ => 8 - (intOf i).toNat)
    case atStart => exact ⟨n, [], 0, rfl, rfl, rfl, by omega, rfl, World.ownsRow_nil _ _ _ _, Below.refl _ _⟩
    case round =>
      obtain ⟨m, s, j, rfl, rfl, hj, hj2, hn, hown, hb⟩ := hrel
      have Hn := Lib.hid hn; clear hn
      have Hj := Lib.hid hj; clear hj
      have HjK := Lib.hid hj2; clear hj2
      have hsl : s.length ≤ 8 := by rw [Hj.out]; have h1 := HjK.out; rw [HK.out] at h1; omega
      rcases Nat.lt_or_ge j K with hlt | hlt
      · have Hlt := Lib.hid hlt
        rw [HK.out] at hlt
        go_wp2_with (at_builtin; refine wpList_append_own _ rfl _ _ 26 rfl w.heap.size 5 i0 (.int .u8 0) 1 1 Try.underlying26 hi hz0 hz1 hz2 rfl (by decide) _ _ _ rfl (hown.alloc _) ⟨wr.heap.size, 0, none⟩ 1 1 [_] rfl rfl (news_one _ _ _) ?_ ?_ ?_ ?_ ?_)
        · intro u hu; simp at hu; subst hu; rfl
        · unfold maxLen; omega
        · omega
        · have := hb.size; simp; omega
        · intro v' w1 hown' hgrow _
          go_wp2
          go_roundw
          case rel =>
            refine ⟨m / 256, s ++ [UInt8.ofNat m], j + 1, by go_num, by go_num, by simp [Hj.out], Hlt.out, ?_, ?_, ?_⟩
            · have e : K - j = (K - (j + 1)) + 1 := by have := Hlt.out; omega
              rw [Hn.out, e, fixb]; simp
            · rw [List.map_append, List.map_cons, List.map_nil, bv_mod, List.length_append]; exact hown'
            · exact (hb.alloc hb.size _).grown hgrow (by have := hb.size; simp; omega) (fun k hk => (hown.lt k hk).1)
          case measure => simp [intOf]; omega
      · have hend : K - j = 0 := by omega
        have hs : s = fixb n K := by have := Hn.out; rw [hend] at this; simp [fixb] at this; exact this.symm
        rw [HK.out] at hlt hs
        have Hs := Lib.hid hs; clear hs hend
        go_wp2_with fail
        have hown2 := hown
        rw [Hs.out] at hown2
        with_reducible refine (put_any B b l _ room _ wr (Nat.le_trans hB hb.size) (Hbuf.out.nob (Chg.of_below hb)) (isSrc_of_owns hown2 (by rw [fixb_len]; omega)) (by rw [fixb_len]; omega)).mono ?_
        rintro e w3 hp
        have Hp := Lib.hid hp
        rcases hp with ⟨_, rfl, _⟩ | ⟨_, rfl, _⟩
        · go_wp2
          go_ret
          exact PutPost.of_chg (Chg.of_below hb) Hp.out
        · go_wp2
          go_ret
          exact PutPost.of_chg (Chg.of_below hb) Hp.out
end Go.Proofs.Ytickdmalkmgkiaa
