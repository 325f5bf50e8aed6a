/- A row's period, letters, sameness. Conditions: the rows lie in the world, they are short. -/
import Derived.Test.YtkgfdgfhpdhhaaaLasso
import Derived.WalkMore
namespace Go.Proofs.Ytkgfdgfhpdhhaaa
open Go.ChangeShapes Go.WideShapes Go.RowKit

theorem per_not {L : List Int} {n i : Nat} {x y : Int} (h1 : n ≤ i) (hx : L[i]? = some x) (hy : L[i - n]? = some y) (h : (x == y) = false) : ¬ perOk L n := fun ho => by
  have := ho.2 i h1 (List.getElem?_eq_some_iff.1 hx).1
  rw [hx, hy] at this
  cases this
  simp at h
set_option maxRecDepth 100000 in
set_option maxHeartbeats 4000000 in
theorem lperiod_any {w : World} {ao : Option Addr} {L : List Int} (c : Nat) (hl : L.length ≤ 10000) (h0 : 0 < L.length) (hL : URow w ao L) :
    Calls Try.prog 45 #[.slice ao L.length c] w fun e w' => Chg Nob w w' ∧ ∃ n : Nat, e = .returned (.int .i64 (n : Int)) ∧ 1 ≤ n ∧ n ≤ L.length ∧ perOk L n ∧ ∀ m, 1 ≤ m → m < n → ¬ perOk L m := by
  have HL := Lib.hid hL
  clear hL
  have hli : (L.length : Int) ≤ 10000 := by omega
  go_enter Try.func45, Try.ntmps45
  go_wp2_with fail
  go_step3
  go_wp2_with fail
  go_step3
  go_wp2_with fail
  go_loopw [3, 4] (fun nv _ wr => ∃ n : Nat, nv = .int .i64 (n : Int) ∧ 1 ≤ n ∧ n ≤ L.length ∧ Hid (∀ m, 1 ≤ m → m < n → ¬ perOk L m) ∧ Chg Nob w wr) (fun nv _ _ => L.length - (intOf nv).toNat)
  case atStart => exact ⟨1, rfl, Nat.le_refl _, h0, fun m h1 h2 => absurd h1 (by omega), Chg.refl _ _⟩
  case round =>
    obtain ⟨n, rfl, hn1, hn2, hno, hcr⟩ := hrel
    by_cases hlt : n < L.length
    · have hni : (n : Int) < (L.length : Int) := by omega
      have hn0 : ¬ (n : Int) = 0 := by omega
      obtain ⟨r, hr⟩ : ∃ r, r = L.length % n := ⟨_, rfl⟩
      have hem : (L.length : Int) % (n : Int) = (r : Int) := by rw [hr]; rfl
      have htm : (L.length : Int).tmod (n : Int) = (r : Int) := by rw [Int.tmod_eq_emod_of_nonneg (by omega), hem]
      have Hr := Lib.hid hr
      clear hr
      by_cases hr0 : 0 < r
      · have hr0i : (0 : Int) < (r : Int) := by omega
        have Hno : Hid (∀ m, 1 ≤ m → m < n + 1 → ¬ perOk L m) := (show ∀ m, 1 ≤ m → m < n + 1 → ¬ perOk L m from fun m h1 h2 ho => by
          by_cases e : m = n
          · subst e
            have := ho.1
            have := Hr.out
            omega
          · exact hno.out m h1 (by omega) ho)
        go_wp2_with fail
        go_roundw
        case rel => exact ⟨n + 1, by go_num, by omega, hlt, Hno, hcr⟩
        case measure => simp [intOf]; omega
      · have hr0i : ¬ (0 : Int) < (r : Int) := by omega
        have Hd : Hid (L.length % n = 0) := (show L.length % n = 0 by have := Hr.out; omega)
        clear Hr hr0
        go_wp2_with fail
        go_loopw [4] (fun iv wr' => ∃ i : Nat, iv = .int .i64 (i : Int) ∧ n ≤ i ∧ i ≤ L.length ∧ Hid (∀ k, n ≤ k → k < i → L[k]? = L[k - n]?) ∧ Chg Nob w wr') (fun iv _ => L.length - (intOf iv).toNat)
        case atStart => exact ⟨n, rfl, Nat.le_refl _, hn2, fun k h1 h2 => absurd h1 (by omega), hcr⟩
        case round =>
          obtain ⟨i, rfl, hi1, hi2, hsame, hci⟩ := hrel
          by_cases hil : i < L.length
          · have hx := List.getElem?_eq_getElem hil
            have hy := List.getElem?_eq_getElem (show i - n < L.length by omega)
            obtain ⟨x, hxe⟩ : ∃ x, x = L[i] := ⟨_, rfl⟩
            obtain ⟨y, hye⟩ : ∃ y, y = L[i - n] := ⟨_, rfl⟩
            rw [← hxe] at hx
            rw [← hye] at hy
            obtain ⟨a, rfl, hca⟩ := HL.out i x hx
            obtain ⟨_, e, hcb⟩ := HL.out (i - n) y hy
            cases e
            have hca := hci.cell' hca (fun e => e)
            have hcb := hci.cell' hcb (fun e => e)
            obtain ⟨d, hd⟩ : ∃ d, d = i - n := ⟨_, rfl⟩
            rw [← hd] at hcb
            have hdi : (i : Int) - (n : Int) = (d : Int) := by omega
            have hd0 : (0 : Int) ≤ (d : Int) := by omega
            have hdl : (d : Int) < (L.length : Int) := by omega
            have Hx := Lib.hid hx
            have Hy := Lib.hid hy
            have hii : (i : Int) < (L.length : Int) := by omega
            have hi0 : (0 : Int) ≤ (i : Int) := by omega
            clear hx hy hxe hye hd
            cases hq : (x == y) with
            | true =>
              have hqn : (x != y) = false := by rw [bne, hq]; rfl
              have Hs : Hid (∀ k, n ≤ k → k < i + 1 → L[k]? = L[k - n]?) := (show ∀ k, n ≤ k → k < i + 1 → L[k]? = L[k - n]? from fun k h1 h2 => by
                by_cases e : k = i
                · subst e; rw [Hx.out, Hy.out, beq_iff_eq.1 hq]
                · exact hsame.out k h1 (by omega))
              go_wp2_with fail
              go_quiet (fail)
              go_wp2_with fail
              go_roundw
              case rel => exact ⟨i + 1, by go_num, by omega, hil, Hs, hci.drewN _⟩
              case measure => simp [intOf]; omega
            | false =>
              have hqn : (x != y) = true := by rw [bne, hq]; rfl
              have Hno : Hid (∀ m, 1 ≤ m → m < n + 1 → ¬ perOk L m) := (show ∀ m, 1 ≤ m → m < n + 1 → ¬ perOk L m from fun m h1 h2 ho => by
                by_cases e : m = n
                · subst e
                  exact per_not hi1 Hx.out Hy.out hq ho
                · exact hno.out m h1 (by omega) ho)
              go_wp2_with fail
              go_quiet (fail)
              go_wp2_with fail
              go_roundw
              case rel => exact ⟨n + 1, by go_num, by omega, hlt, Hno, hci.drewN _⟩
              case measure => simp [intOf]; omega
          · obtain rfl : i = L.length := by omega
            have Hok : Hid (perOk L n) := ⟨Hd.out, fun k h1 h2 => hsame.out k h1 h2⟩
            go_wp2
            rw [Exit.noGoto_ret]
            go_ret
            exact ⟨hci, n, rfl, hn1, hn2, Hok.out, hno.out⟩
    · obtain rfl : n = L.length := by omega
      have Hok : Hid (perOk L L.length) := ⟨Nat.mod_self _, fun k h1 h2 => absurd h1 (by omega)⟩
      go_wp2
      rw [Exit.noGoto_ret]
      go_ret
      exact ⟨hcr, L.length, rfl, hn1, hn2, Hok.out, hno.out⟩
section
variable {ap al bp bl : Option Addr} {cp cl dp dl : Nat} {P L Q M : List Int} {w : World}
/-- The letter that lasso.Letter tells. -/
def letterV (P L : List Int) (i : Nat) : Int := if lcheckN P.length L.length = 0 then (wordO P L i).getD 0 else 0
set_option maxRecDepth 100000 in
set_option maxHeartbeats 4000000 in
theorem lletter_any (hl : P.length + L.length ≤ 10000) (hP : URow w ap P) (hL : URow w al L) (i : Nat) (hi : i < 18446744073709551616) :
    Calls Try.prog 21 #[.agg #[.slice ap P.length cp, .slice al L.length cl], .int .u64 (i : Int)] w fun e w' => e = .returned (.int .u64 (letterV P L i)) ∧ Chg Nob w w' := by
  obtain ⟨X, hX, hcX, _, hb⟩ := box_two w (.slice ap P.length cp) (.slice al L.length cl)
  obtain ⟨c0, c1, _⟩ := cell_two hb
  rw [hX] at c0 c1
  have HPX := Lib.hid (hP.nob hcX)
  have HLX := Lib.hid (hL.nob hcX)
  have HcX := Lib.hid hcX
  have Hb := Lib.hid hb
  have hck := lcheck_any (cp := cp) (cl := cl) (ap := ap) (al := al) (w := X) P.length L.length hl
  obtain ⟨n, hn⟩ : ∃ n, n = lcheckN P.length L.length := ⟨_, rfl⟩
  rw [← hn] at hck
  have Hn := Lib.hid hn
  clear hP hL hcX hb hn
  go_enter Try.func21, Try.ntmps21
  go_wp2_with fail
  rw [← hX]
  clear hX c0 c1
  (with_reducible refine hck.mono ?_)
  clear hck
  rintro e w2 ⟨rfl, hc2⟩
  cases h0 : (n == 0) with
  | false =>
    have hne : (n != 0) = true := by rw [bne, h0]; rfl
    have Hr : Hid (letterV P L i = 0) := if_neg (by rw [← Hn.out]; exact beq_eq_false_iff_ne.1 h0)
    go_wp2
    go_ret
    exact ⟨by rw [Hr.out]; rfl, HcX.out.trans1 hc2⟩
  | true =>
    have hne : (n != 0) = false := by rw [bne, h0]; rfl
    have hck : lcheckN P.length L.length = 0 := by rw [← Hn.out]; exact beq_iff_eq.1 h0
    have hl0 : 0 < L.length := by
      unfold lcheckN at hck
      split at hck
      · cases hck
      · omega
    obtain ⟨x, hx⟩ : ∃ x, wordO P L i = some x := by
      unfold wordO
      split
      · exact ⟨_, List.getElem?_eq_getElem (by assumption)⟩
      · exact ⟨_, List.getElem?_eq_getElem (Nat.mod_lt _ hl0)⟩
    have Hr : Hid (letterV P L i = x) := (show letterV P L i = x by unfold letterV; rw [if_pos hck, hx]; rfl)
    obtain ⟨c0, c1, _⟩ := cell_two (hc2.at Hb.out (fun e => e))
    have hii : (0 : Int) ≤ (i : Int) := by omega
    have hii2 : (i : Int) < 18446744073709551616 := by omega
    have hpl : (P.length : Int) ≤ 10000 := by omega
    unfold wordO at hx
    clear hck h0
    by_cases hlt : i < P.length
    · rw [if_pos hlt] at hx
      obtain ⟨a, rfl, hcell⟩ := HPX.out i x hx
      have hcell := hc2.cell' hcell (fun e => e)
      have hlti : (i : Int) < (P.length : Int) := by omega
      clear hx
      go_wp2
      go_ret
      exact ⟨by rw [Hr.out]; rfl, HcX.out.trans1 hc2⟩
    · rw [if_neg hlt] at hx
      obtain ⟨r, hr⟩ : ∃ r, r = (i - P.length) % L.length := ⟨_, rfl⟩
      rw [← hr] at hx
      obtain ⟨a, rfl, hcell⟩ := HLX.out r x hx
      have hcell := hc2.cell' hcell (fun e => e)
      have hlti : ¬ (i : Int) < (P.length : Int) := by omega
      have hll : ¬ (L.length : Int) = 0 := by omega
      have hrl : (r : Int) < (L.length : Int) := by have := Nat.mod_lt (i - P.length) hl0; omega
      have hem : ((i : Int) - (P.length : Int)) % (L.length : Int) = (r : Int) := by
        rw [hr, Int.natCast_emod, Int.ofNat_sub (by omega)]
      have htm : ((i : Int) - (P.length : Int)).tmod (L.length : Int) = (r : Int) := by rw [Int.tmod_eq_emod_of_nonneg (by omega), hem]
      have hr0 : (0 : Int) ≤ (r : Int) := by omega
      clear hx hr
      go_wp2_with fail
      go_quiet (fail)
      go_wp2
      go_ret
      exact ⟨by rw [Hr.out]; rfl, (HcX.out.trans1 hc2).drewN _⟩

set_option maxRecDepth 100000 in
set_option maxHeartbeats 8000000 in
theorem lexact_any (hl : P.length + L.length ≤ 10000) (_hl2 : Q.length + M.length ≤ 10000) (hP : URow w ap P) (hL : URow w al L) (hQ : URow w bp Q) (hM : URow w bl M) :
    Calls Try.prog 17 #[.agg #[.slice ap P.length cp, .slice al L.length cl], .agg #[.slice bp Q.length dp, .slice bl M.length dl]] w fun e w' => e = .returned (.bool (P == Q && L == M)) ∧ Chg Nob w w' := by
  obtain ⟨X, hX, hcX, hb0, hb1⟩ : ∃ X, X = (w.alloc (.cells #[.slice ap P.length cp, .slice al L.length cl] 24)).alloc (.cells #[.slice bp Q.length dp, .slice bl M.length dl] 24) ∧ Chg Nob w X ∧ X.heap[w.heap.size]? = some (.cells #[.slice ap P.length cp, .slice al L.length cl] 24 (0, 0)) ∧ X.heap[w.heap.size + 1]? = some (.cells #[.slice bp Q.length dp, .slice bl M.length dl] 24 (0, 0)) := by
    have h1 := heap_alloc_new (w.alloc (.cells #[.slice ap P.length cp, .slice al L.length cl] 24)) (.cells #[.slice bp Q.length dp, .slice bl M.length dl] 24)
    rw [World.size_alloc] at h1
    exact ⟨_, rfl, ((Chg.refl _ _).alloc _).alloc _, ((Chg.refl Nob _).alloc _).at (heap_alloc_new w _) (fun e => e), h1⟩
  have HP := Lib.hid (hP.nob hcX)
  have HL := Lib.hid (hL.nob hcX)
  have HQ := Lib.hid (hQ.nob hcX)
  have HM := Lib.hid (hM.nob hcX)
  have HcX := Lib.hid hcX
  have Hb0 := Lib.hid hb0
  have Hb1 := Lib.hid hb1
  have HX := Lib.hid hX
  clear hP hL hQ hM hcX hb0 hb1 hX
  by_cases h1 : P.length = Q.length
  · by_cases h2 : L.length = M.length
    · have H1 := Lib.hid h1
      have H2 := Lib.hid h2
      rw [← h1, ← h2] at Hb1 HX ⊢
      have hn1 : ((P.length : Int) != (P.length : Int)) = false := by simp
      have hn2 : ((L.length : Int) != (L.length : Int)) = false := by simp
      have hpl : (P.length : Int) ≤ 10000 := by omega
      have hll : (L.length : Int) ≤ 10000 := by omega
      obtain ⟨c0, c1, _⟩ := cell_two Hb0.out
      obtain ⟨d0, d1, _⟩ := cell_two Hb1.out
      rw [HX.out] at c0 c1 d0 d1
      clear h1 h2
      go_enter Try.func17, Try.ntmps17
      go_wp2_with fail
      rw [← HX.out]
      clear c0 c1 d0 d1 HX
      go_loopw [5] (fun q wr => ∃ j : Nat, q = .int .i64 (j : Int) ∧ j ≤ P.length ∧ Hid (∀ i, i < j → P[i]? = Q[i]?) ∧ Chg Nob X wr) (fun q _ => P.length - (intOf q).toNat)
      case atStart => exact ⟨0, rfl, by omega, fun i h => absurd h (Nat.not_lt_zero i), Chg.refl _ _⟩
      case round =>
        obtain ⟨j, rfl, hj, hsame, hcr⟩ := hrel
        obtain ⟨c0, c1, _⟩ := cell_two (hcr.at Hb0.out (fun e => e))
        obtain ⟨d0, d1, _⟩ := cell_two (hcr.at Hb1.out (fun e => e))
        by_cases hlt : j < P.length
        · have hx := List.getElem?_eq_getElem hlt
          have hy := List.getElem?_eq_getElem (H1.out ▸ hlt : j < Q.length)
          obtain ⟨x, hxe⟩ : ∃ x, x = P[j] := ⟨_, rfl⟩
          obtain ⟨y, hye⟩ : ∃ y, y = Q[j]'(H1.out ▸ hlt) := ⟨_, rfl⟩
          rw [← hxe] at hx
          rw [← hye] at hy
          obtain ⟨a, rfl, hca⟩ := HP.out j x hx
          obtain ⟨b, rfl, hcb⟩ := HQ.out j y hy
          have hca := hcr.cell' hca (fun e => e)
          have hcb := hcr.cell' hcb (fun e => e)
          have Hx := Lib.hid hx
          have Hy := Lib.hid hy
          have hji : (j : Int) < (P.length : Int) := by omega
          have hj0 : (0 : Int) ≤ (j : Int) := by omega
          clear hx hy hxe hye
          cases hq : (x == y) with
          | true =>
            have hqn : (x != y) = false := by rw [bne, hq]; rfl
            have Hs : Hid (∀ i, i < j + 1 → P[i]? = Q[i]?) := (show ∀ i, i < j + 1 → P[i]? = Q[i]? from fun i hi => by
              by_cases e : i = j
              · subst e; rw [Hx.out, Hy.out, beq_iff_eq.1 hq]
              · exact hsame.out i (by omega))
            go_wp2_with fail
            go_quiet (fail)
            go_wp2_with fail
            go_roundw
            case rel => exact ⟨j + 1, by go_num, by omega, Hs, hcr.drewN _⟩
            case measure => simp [intOf]; omega
          | false =>
            have hqn : (x != y) = true := by rw [bne, hq]; rfl
            have Hne : Hid ((P == Q && L == M) = false) := (show (P == Q && L == M) = false by
              rw [beq_eq_false_iff_ne.2 (fun e => by
                have h1 := Hx.out
                rw [e, Hy.out] at h1
                cases h1
                simp at hq)]
              rfl)
            go_wp2_with fail
            go_quiet (fail)
            go_wp2
            go_ret
            exact ⟨by rw [Hne.out]; rfl, (HcX.out.trans1 hcr).drewN _⟩
        · obtain rfl : j = P.length := by omega
          have HPQ : Hid (P = Q) := (show P = Q from urow_eq H1.out hsame.out rfl)
          go_wp2_with fail
          go_loopw [6] (fun q wr' => ∃ j : Nat, q = .int .i64 (j : Int) ∧ j ≤ L.length ∧ Hid (∀ i, i < j → L[i]? = M[i]?) ∧ Chg Nob X wr') (fun q _ => L.length - (intOf q).toNat)
          case atStart => exact ⟨0, rfl, by omega, fun i h => absurd h (Nat.not_lt_zero i), hcr⟩
          case round =>
            obtain ⟨j, rfl, hj, hsame2, hcs⟩ := hrel
            clear c0 c1 d0 d1
            obtain ⟨c0, c1, _⟩ := cell_two (hcs.at Hb0.out (fun e => e))
            obtain ⟨d0, d1, _⟩ := cell_two (hcs.at Hb1.out (fun e => e))
            by_cases hlt : j < L.length
            · have hx := List.getElem?_eq_getElem hlt
              have hy := List.getElem?_eq_getElem (H2.out ▸ hlt : j < M.length)
              obtain ⟨x, hxe⟩ : ∃ x, x = L[j] := ⟨_, rfl⟩
              obtain ⟨y, hye⟩ : ∃ y, y = M[j]'(H2.out ▸ hlt) := ⟨_, rfl⟩
              rw [← hxe] at hx
              rw [← hye] at hy
              obtain ⟨a, rfl, hca⟩ := HL.out j x hx
              obtain ⟨b, rfl, hcb⟩ := HM.out j y hy
              have hca := hcs.cell' hca (fun e => e)
              have hcb := hcs.cell' hcb (fun e => e)
              have Hx := Lib.hid hx
              have Hy := Lib.hid hy
              have hji : (j : Int) < (L.length : Int) := by omega
              have hj0 : (0 : Int) ≤ (j : Int) := by omega
              clear hx hy hxe hye
              cases hq : (x == y) with
              | true =>
                have hqn : (x != y) = false := by rw [bne, hq]; rfl
                have Hs : Hid (∀ i, i < j + 1 → L[i]? = M[i]?) := (show ∀ i, i < j + 1 → L[i]? = M[i]? from fun i hi => by
                  by_cases e : i = j
                  · subst e; rw [Hx.out, Hy.out, beq_iff_eq.1 hq]
                  · exact hsame2.out i (by omega))
                go_wp2_with fail
                go_quiet (fail)
                go_wp2_with fail
                go_roundw
                case rel => exact ⟨j + 1, by go_num, by omega, Hs, hcs.drewN _⟩
                case measure => simp [intOf]; omega
              | false =>
                have hqn : (x != y) = true := by rw [bne, hq]; rfl
                have Hne : Hid ((P == Q && L == M) = false) := (show (P == Q && L == M) = false by
                  have : (L == M) = false := beq_eq_false_iff_ne.2 (fun e => by
                    have h1 := Hx.out
                    rw [e, Hy.out] at h1
                    cases h1
                    simp at hq)
                  rw [this, Bool.and_false])
                go_wp2_with fail
                go_quiet (fail)
                go_wp2
                go_ret
                exact ⟨by rw [Hne.out]; rfl, (HcX.out.trans1 hcs).drewN _⟩
            · obtain rfl : j = L.length := by omega
              have Heq : Hid ((P == Q && L == M) = true) := (show (P == Q && L == M) = true by
                rw [Bool.and_eq_true]
                exact ⟨beq_iff_eq.2 HPQ.out, beq_iff_eq.2 (urow_eq H2.out hsame2.out rfl)⟩)
              go_wp2
              go_ret
              exact ⟨by rw [Heq.out]; rfl, HcX.out.trans1 hcs⟩
    · have hn1 : ((P.length : Int) != (Q.length : Int)) = false := by simp [h1]
      have hn2 : ((L.length : Int) != (M.length : Int)) = true := by simp; omega
      have hn3 : (P.length : Int) = (Q.length : Int) := by omega
      have Hne : Hid ((P == Q && L == M) = false) := (show (P == Q && L == M) = false by
        have : (L == M) = false := beq_eq_false_iff_ne.2 (fun e => h2 (by rw [e]))
        rw [this, Bool.and_false])
      obtain ⟨c0, c1, _⟩ := cell_two Hb0.out
      obtain ⟨d0, d1, _⟩ := cell_two Hb1.out
      rw [HX.out] at c0 c1 d0 d1
      clear h1 h2 hn3
      go_enter Try.func17, Try.ntmps17
      go_wp2
      rw [← HX.out]
      go_ret
      exact ⟨by rw [Hne.out]; rfl, HcX.out⟩
  · have hn1 : ((P.length : Int) != (Q.length : Int)) = true := by simp; omega
    have Hne : Hid ((P == Q && L == M) = false) := (show (P == Q && L == M) = false by
      rw [beq_eq_false_iff_ne.2 (fun e => h1 (by rw [e]))]
      rfl)
    obtain ⟨c0, c1, _⟩ := cell_two Hb0.out
    obtain ⟨d0, d1, _⟩ := cell_two Hb1.out
    rw [HX.out] at c0 c1 d0 d1
    clear h1
    go_enter Try.func17, Try.ntmps17
    go_wp2
    rw [← HX.out]
    go_ret
    exact ⟨by rw [Hne.out]; rfl, HcX.out⟩
end
end Go.Proofs.Ytkgfdgfhpdhhaaa
