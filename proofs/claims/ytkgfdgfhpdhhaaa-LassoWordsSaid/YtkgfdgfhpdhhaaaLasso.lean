/- Lassos in the world: whether they may be, their letters. Conditions: their rows lie in the world, they are short. -/
import Derived.Test.YtkgfdgfhpdhhaaaLplain
import Derived.Test.YtkgfdgfhpdhhaaaLev
namespace Go.Proofs.Ytkgfdgfhpdhhaaa
open Go.ChangeShapes Go.WideShapes Go.RowKit

/-- A row of letters. -/
def URow (W : World) (ao : Option Addr) (L : List Int) : Prop := ∀ j x, L[j]? = some x → ∃ a, ao = some a ∧ W.cell? (a.add j) = some (.int .u64 x)
theorem URow.nob {W W' : World} {ao : Option Addr} {L : List Int} (h : URow W ao L) (hc : Chg Nob W W') : URow W' ao L := fun j x hj => by
  obtain ⟨a, e, h2⟩ := h j x hj
  exact ⟨a, e, hc.cell' h2 (fun e => e)⟩
def lcheckN (np nl : Nat) : Int := if nl = 0 ∨ 4096 < np + nl then 100 else 0
theorem box_two (w : World) (a b : Value) : ∃ X, X = w.alloc (.cells #[a, b] 24) ∧ Chg Nob w X ∧ X.heap.size = w.heap.size + 1 ∧ X.heap[w.heap.size]? = some (.cells #[a, b] 24 (0, 0)) := ⟨_, rfl, (Chg.refl _ _).alloc _, World.size_alloc _ _, heap_alloc_new _ _⟩
section
variable {ap al : Option Addr} {cp cl : Nat} {P L : List Int} {w : World}
set_option maxHeartbeats 1000000 in
theorem lcheck_any (np nl : Nat) (hl : np + nl ≤ 10000) : Calls Try.prog 18 #[.agg #[.slice ap np cp, .slice al nl cl]] w fun e w' => e = .returned (.int .i64 (lcheckN np nl)) ∧ Chg Nob w w' := by
  obtain ⟨X, hX, hcX, _, hb⟩ := box_two w (.slice ap np cp) (.slice al nl cl)
  obtain ⟨c0, c1, _⟩ := cell_two hb
  rw [hX] at c0 c1 hcX
  have HcX := Lib.hid hcX
  clear hb hcX hX
  by_cases h0 : nl = 0
  · subst h0
    have Hr : Hid (lcheckN np 0 = 100) := if_pos (.inl rfl)
    go_enter Try.func18, Try.ntmps18
    go_wp2
    go_ret
    exact ⟨by rw [Hr.out]; rfl, HcX.out⟩
  · have h0b : ((nl : Int) == 0) = false := by simpa using h0
    have h0i : ¬ (nl : Int) = 0 := by omega
    have hi : (np : Int) + (nl : Int) ≤ 10000 := by omega
    by_cases hb : 4096 < np + nl
    · have hbi : 4096 < (np : Int) + (nl : Int) := by omega
      have Hr : Hid (lcheckN np nl = 100) := if_pos (.inr hb)
      clear hb h0
      go_enter Try.func18, Try.ntmps18
      go_wp2
      go_ret
      exact ⟨by rw [Hr.out]; rfl, HcX.out⟩
    · have hbi : ¬ 4096 < (np : Int) + (nl : Int) := by omega
      have Hr : Hid (lcheckN np nl = 0) := if_neg (by omega)
      clear hb h0
      go_enter Try.func18, Try.ntmps18
      go_wp2
      go_ret
      exact ⟨by rw [Hr.out]; rfl, HcX.out⟩
set_option maxHeartbeats 1000000 in
theorem rlcheck_any (np nl : Nat) (hl : np + nl ≤ 10000) : Calls Try.prog 19 #[.agg #[.slice ap np cp, .slice al nl cl]] w fun e w' => e = .returned (.int .i64 (lcheckN np nl)) ∧ Chg Nob w w' := by
  obtain ⟨X, hX, hcX, _, hb⟩ := box_two w (.slice ap np cp) (.slice al nl cl)
  obtain ⟨c0, c1, _⟩ := cell_two hb
  rw [hX] at c0 c1 hcX
  have HcX := Lib.hid hcX
  clear hb hcX hX
  by_cases h0 : nl = 0
  · subst h0
    have Hr : Hid (lcheckN np 0 = 100) := if_pos (.inl rfl)
    go_enter Try.func19, Try.ntmps19
    go_wp2
    go_ret
    exact ⟨by rw [Hr.out]; rfl, HcX.out⟩
  · have h0b : ((nl : Int) == 0) = false := by simpa using h0
    have h0i : ¬ (nl : Int) < 1 := by omega
    have hi : (np : Int) + (nl : Int) ≤ 10000 := by omega
    by_cases hb : 4096 < np + nl
    · have hbi : 4096 < (np : Int) + (nl : Int) := by omega
      have Hr : Hid (lcheckN np nl = 100) := if_pos (.inr hb)
      clear hb h0
      go_enter Try.func19, Try.ntmps19
      go_wp2
      go_ret
      exact ⟨by rw [Hr.out]; rfl, HcX.out⟩
    · have hbi : ¬ 4096 < (np : Int) + (nl : Int) := by omega
      have Hr : Hid (lcheckN np nl = 0) := if_neg (by omega)
      clear hb h0
      go_enter Try.func19, Try.ntmps19
      go_wp2
      go_ret
      exact ⟨by rw [Hr.out]; rfl, HcX.out⟩
set_option maxRecDepth 100000 in
set_option maxHeartbeats 4000000 in
theorem wletter_any (hl : P.length + L.length ≤ 10000) (h0 : 0 < L.length) (hP : URow w ap P) (hL : URow w al L) (i : Nat) (hi : i < 18446744073709551616) {x : Int} (hx : wordO P L i = some x) :
    Calls Try.prog 20 #[.agg #[.slice ap P.length cp, .slice al L.length cl], .int .u64 (i : Int)] w fun e w' => e = .returned (.int .u64 x) ∧ Chg Nob w w' := by
  obtain ⟨X, hX, hcX, _, hb⟩ := box_two w (.slice ap P.length cp) (.slice al L.length cl)
  obtain ⟨c0, c1, _⟩ := cell_two hb
  have hPX := hP.nob hcX
  have hLX := hL.nob hcX
  unfold wordO at hx
  have hii : (0 : Int) ≤ (i : Int) := by omega
  have hii2 : (i : Int) < 18446744073709551616 := by omega
  have hpl : (P.length : Int) ≤ 10000 := by omega
  by_cases hlt : i < P.length
  · rw [if_pos hlt] at hx
    obtain ⟨a, rfl, hcell⟩ := hPX i x hx
    rw [hX] at c0 c1 hcell
    have hlti : (i : Int) < (P.length : Int) := by omega
    clear hx
    go_enter Try.func20, Try.ntmps20
    go_wp2
    go_ret
    exact ⟨rfl, hX ▸ hcX⟩
  · rw [if_neg hlt] at hx
    obtain ⟨r, hr⟩ : ∃ r, r = (i - P.length) % L.length := ⟨_, rfl⟩
    rw [← hr] at hx
    obtain ⟨a, rfl, hcell⟩ := hLX r x hx
    rw [hX] at c0 c1 hcell
    have hlti : ¬ (i : Int) < (P.length : Int) := by omega
    have hll : ¬ (L.length : Int) = 0 := by omega
    have hrl : (r : Int) < (L.length : Int) := by have := Nat.mod_lt (i - P.length) h0; omega
    have hem : ((i : Int) - (P.length : Int)) % (L.length : Int) = (r : Int) := by
      rw [hr, Int.natCast_emod, Int.ofNat_sub (by omega)]
    have htm : ((i : Int) - (P.length : Int)).tmod (L.length : Int) = (r : Int) := by rw [Int.tmod_eq_emod_of_nonneg (by omega), hem]
    have hr0 : (0 : Int) ≤ (r : Int) := by omega
    clear hx hr
    go_enter Try.func20, Try.ntmps20
    go_wp2_with fail
    go_quiet (fail)
    go_wp2
    go_ret
    exact ⟨rfl, hX ▸ hcX.drewN _⟩
end
theorem Try.info25 : (Try.prog.info? 25).map (fun i => (i.zero, i.size, i.bytes)) = some (some (.int .u64 0), 1, 8) := by kernel_rfl
theorem info25_parts : ∃ i, Try.prog.info? 25 = some i ∧ i.zero = some (.int .u64 0) ∧ i.size = 1 ∧ i.bytes = 8 := by
  have h := Try.info25
  cases hi : Try.prog.info? 25 with
  | none => rw [hi] at h; simp at h
  | some i => rw [hi] at h; simp at h; exact ⟨i, rfl, h.1, h.2.1, h.2.2⟩
def uvs (M : List Int) : List Value := M.map (.int .u64)
theorem uvs_one (M : List Int) : ∀ u ∈ uvs M, u.oneCell' = true := by
  intro u hu
  obtain ⟨x, _, rfl⟩ := List.mem_map.1 hu
  rfl
/-- Letters behind a row of letters. -/
theorem append25 {B : Nat} {w : World} {v : Value} {n : Nat} {xs : List Value} {a : Addr} {M : List Int} (c : Nat) (h : w.ownsRow B 25 1 v n xs) (hB : B ≤ w.heap.size) (hn : n + M.length ≤ 1000000) (hM : ∀ j x, M[j]? = some x → w.cell? (a.add j) = some (.int .u64 x)) :
    ∃ v' w', (Builtin.append_ #[22, 22] 22 #[v, .slice (some a) M.length c]).run Try.prog w = .ok v' w' ∧ w'.ownsRow B 25 1 v' (n + M.length) (xs ++ uvs M) ∧ w.grownBy w' v.ownBlock ∧ (v'.ownBlock = v.ownBlock ∨ v'.ownBlock = some w.heap.size) := by
  obtain ⟨i, hi, hz, hs, hb⟩ := info25_parts
  obtain ⟨v', w', h1, h2, h3, _, h5⟩ := run_append_own_at (P := Try.prog) w B 22 22 25 i _ 1 8 Try.underlying22 hi hz hs hb rfl (by decide) v n _ h a M.length c (uvs M) (by simp [uvs])
    (fun j u hj => by
      unfold uvs at hj
      rw [List.getElem?_map] at hj
      cases hx : M[j]? with
      | none => rw [hx] at hj; cases hj
      | some x => rw [hx] at hj; cases hj; exact hM j x hx) (uvs_one M) (by unfold maxLen; omega) (by omega) hB
  exact ⟨v', w', h1, h2, h3, h5⟩
set_option maxRecDepth 100000 in
set_option maxHeartbeats 2000000 in
theorem uclone_any {w : World} {a : Addr} {M : List Int} (c : Nat) (hl : M.length ≤ 10000) (hM : ∀ j x, M[j]? = some x → w.cell? (a.add j) = some (.int .u64 x)) :
    Calls Try.prog 44 #[.slice (some a) M.length c] w fun e w' => Chg Nob w w' ∧ ∃ v, e = .returned v ∧ w'.ownsRow w.heap.size 25 1 v M.length (uvs M) := by
  have q22 : ∀ (w : World) (a : Option Addr) (n c n' c' : Nat), (binOp .eql 22 (.slice a n c) (.slice none n' c')).run Try.prog w = .ok (.bool a.isNone) w := fun w a n c n' c' => Lib.run_eql_slice_nil w _ _ a n c n' c' Try.underlying22
  have hA : Chg Nob w (w.alloc (.cells #[] 25)) := (Chg.refl _ _).alloc _
  obtain ⟨v', w', hrun, hrow, hgr, _⟩ := append25 (a := a) (M := M) c (World.ownsRow_made (base := w.heap.size) (size := 1) (e := 25) w #[] 0 (Nat.le_refl _) (Nat.zero_le _) rfl) (by rw [World.size_alloc]; omega) (by omega) (fun j x hj => hA.cell' (hM j x hj) (fun e => e))
  rw [Nat.zero_add, List.nil_append] at hrow
  have Hrun := Lib.hid hrun
  have Hrow := Lib.hid hrow
  have Hgr := Lib.hid hgr
  have HM := Lib.hid hM
  clear hrun hrow hgr hM hA
  go_enter Try.func44, Try.ntmps44
  go_wp2_with (refine wpList_append_known rfl _ _ 22 22 rfl _ _ rfl rfl _ w' Hrun.out ?_)
  go_wp2
  go_ret
  exact ⟨((Chg.refl Nob w).alloc _).grown Hgr.out (fun k hk hlt => by have hk : w.heap.size = k := by simpa [Value.ownBlock] using hk
                                                                      omega), _, rfl, Hrow.out⟩
theorem urow_eq {M N : List Int} {j : Nat} (hl : M.length = N.length) (h : ∀ i, i < j → M[i]? = N[i]?) (hj : j = M.length) : M = N := by
  refine rows_same hl (fun i hi => h i (by omega))
set_option maxRecDepth 100000 in
set_option maxHeartbeats 2000000 in
theorem uequal_any {w : World} {ao bo : Option Addr} {M N : List Int} (c d : Nat) (hl : M.length ≤ 10000) (_hl2 : N.length ≤ 10000) (hM : URow w ao M) (hN : URow w bo N) :
    Calls Try.prog 46 #[.slice ao M.length c, .slice bo N.length d] w fun e w' => e = .returned (.bool (M == N)) ∧ Chg Nob w w' := by
  have HM := Lib.hid hM
  have HN := Lib.hid hN
  clear hM hN
  by_cases hlen : M.length = N.length
  · have hli : (M.length : Int) = (N.length : Int) := by omega
    have Hlen := Lib.hid hlen
    rw [← hlen]
    have hneq : ((M.length : Int) != (M.length : Int)) = false := by simp
    clear hlen hli
    go_enter Try.func46, Try.ntmps46
    go_wp2_with fail
    go_loopw [5, 13] (fun i q wr => ∃ j : Nat, q = .int .i64 (j : Int) ∧ j ≤ M.length ∧ Hid (∀ i, i < j → M[i]? = N[i]?) ∧ Chg Nob w wr) (fun _ q _ => M.length - (intOf q).toNat)
    case atStart => exact ⟨0, rfl, by omega, fun i h => absurd h (Nat.not_lt_zero i), Chg.refl _ _⟩
    case round =>
      obtain ⟨j, rfl, hj, hsame, hcr⟩ := hrel
      by_cases hlt : j < M.length
      · have hx := List.getElem?_eq_getElem hlt
        have hy := List.getElem?_eq_getElem (Hlen.out ▸ hlt : j < N.length)
        obtain ⟨x, hxe⟩ : ∃ x, x = M[j] := ⟨_, rfl⟩
        obtain ⟨y, hye⟩ : ∃ y, y = N[j]'(Hlen.out ▸ hlt) := ⟨_, rfl⟩
        rw [← hxe] at hx
        rw [← hye] at hy
        obtain ⟨a, rfl, hca⟩ := HM.out j x hx
        obtain ⟨b, rfl, hcb⟩ := HN.out j y hy
        have hca := hcr.cell' hca (fun e => e)
        have hcb := hcr.cell' hcb (fun e => e)
        have Hx := Lib.hid hx
        have Hy := Lib.hid hy
        have hji : (j : Int) < (M.length : Int) := by omega
        have hj0 : (0 : Int) ≤ (j : Int) := by omega
        clear hx hy hxe hye
        cases hq : (x == y) with
        | true =>
          have hqn : (x != y) = false := by rw [bne, hq]; rfl
          have Hs : Hid (∀ i, i < j + 1 → M[i]? = N[i]?) := (show ∀ i, i < j + 1 → M[i]? = N[i]? from fun i hi => by
            by_cases e : i = j
            · subst e; rw [Hx.out, Hy.out, beq_iff_eq.1 hq]
            · exact hsame.out i (by omega))
          go_wp2_with fail
          go_quiet (fail)
          go_wp2_with fail
          go_roundw
          case rel => exact ⟨j + 1, by go_num, by omega, Hs, hcr.drewN _⟩
          case measure => simp [intOf]; omega
        | false =>
          have hqn : (x != y) = true := by rw [bne, hq]; rfl
          have Hne : Hid ((M == N) = false) := beq_eq_false_iff_ne.2 (fun e => by
            have h1 := Hx.out
            rw [e, Hy.out] at h1
            cases h1
            simp at hq)
          go_wp2_with fail
          go_quiet (fail)
          go_wp2
          go_ret
          exact ⟨by rw [Hne.out]; rfl, hcr.drewN _⟩
      · obtain rfl : j = M.length := by omega
        have Heq : Hid ((M == N) = true) := beq_iff_eq.2 (urow_eq Hlen.out hsame.out rfl)
        go_wp2
        go_ret
        exact ⟨by rw [Heq.out]; rfl, hcr⟩
  · have hli : ((M.length : Int) != (N.length : Int)) = true := by simp; omega
    have Hne : Hid ((M == N) = false) := beq_eq_false_iff_ne.2 (fun e => hlen (by rw [e]))
    have hli2 : ¬ (M.length : Int) = (N.length : Int) := by omega
    clear hlen
    go_enter Try.func46, Try.ntmps46
    go_wp2
    go_ret
    exact ⟨by rw [Hne.out]; rfl, Chg.refl _ _⟩
end Go.Proofs.Ytkgfdgfhpdhhaaa
