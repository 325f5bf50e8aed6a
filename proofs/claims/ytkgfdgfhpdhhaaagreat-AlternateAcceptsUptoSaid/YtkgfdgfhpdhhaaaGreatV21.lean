/- Parts of the walks and of the plain theory: The reference's Accepts. Conditions: the automaton and the word lie in the world, they are of no bulk beyond bounds, numbers are of 64 bits. -/
import Derived.Test.YtkgfdgfhpdhhaaaGreatV20
import Derived.Test.YtkgfdgfhpdhhaaaGreatV16
import Derived.Test.YtkgfdgfhpdhhaaaGreatV18
import Derived.Test.YtkgfdgfhpdhhaaaGreatV11
import Derived.Test.YtkgfdgfhpdhhaaaGreatV15
import Derived.Test.YtkgfdgfhpdhhaaaGreatV01
import Derived.ChangeSlices
import Derived.ChangeSame
namespace Go.Proofs.YtkgfdgfhpdhhaaaGreat
open Go.ChangeShapes Go.WideShapes Go.RowKit
attribute [local go_sem] Oper.semAt_some
def allB (rows : List (List Bool)) (l : List Int) : Bool := l.all fun k => (rows.getD k.toNat []).getD 0 false
def raccB (I : List (List Int)) (S : List Sti) (P L : List Int) : Bool := decide (accCode I S P.length L.length = 0) && I.any fun l => allB (rowsR S (P ++ L) P.length S.length) l
section
variable {w : World} {ai as' ap al : Option Addr} {ci cs cp cl : Nat} {I : List (List Int)} {S : List Sti} {P L : List Int}
set_option maxRecDepth 100000 in
set_option maxHeartbeats 8000000 in
theorem raccepts_any (hI : I.length ≤ 2000000) (hS : S.length ≤ 2000000) (h : LRow w ai I) (k : SRow w as' S) (hl : P.length + L.length ≤ 4000000) (hP : URow w ap P) (hL : URow w al L) (hU : ∀ x ∈ P ++ L, okU x) (hm : ∀ n, n < S.length → ∀ m ∈ (S.getD n s0).moves, okU m.yes ∧ okU m.no) :
    Calls Tryz.prog 25 #[.agg #[.slice ai I.length ci, .slice as' S.length cs], .agg #[.slice ap P.length cp, .slice al L.length cl]] w fun e w' => e = .returned (.tuple #[.bool (raccB I S P L), .int .i64 (accCode I S P.length L.length)]) ∧ Chg Nob w w' := by
  obtain ⟨X, hX, hcX, hb0, hb1, hsX⟩ : ∃ X, X = (w.alloc (.cells #[.slice ai I.length ci, .slice as' S.length cs] 38)).alloc (.cells #[.slice ap P.length cp, .slice al L.length cl] 28) ∧ Chg Nob w X ∧ X.heap[w.heap.size]? = some (.cells #[.slice ai I.length ci, .slice as' S.length cs] 38 (0, 0)) ∧ X.heap[w.heap.size + 1]? = some (.cells #[.slice ap P.length cp, .slice al L.length cl] 28 (0, 0)) ∧ X.heap.size = w.heap.size + 2 := by
    have h1 := heap_alloc_new (w.alloc (.cells #[.slice ai I.length ci, .slice as' S.length cs] 38)) (.cells #[.slice ap P.length cp, .slice al L.length cl] 28)
    rw [World.size_alloc] at h1
    exact ⟨_, rfl, ((Chg.refl _ _).alloc _).alloc _, ((Chg.refl Nob _).alloc _).at (heap_alloc_new w _) (fun e => e), h1, by rw [World.size_alloc, World.size_alloc]⟩
  obtain ⟨c0, c1, _⟩ := cell_two hb0
  obtain ⟨d0, d1, _⟩ := cell_two hb1
  have HcX := Lib.hid hcX
  have HI := Lib.hid (h.nob hcX)
  have HS := Lib.hid (k.nob hcX)
  have HP := Lib.hid (hP.nob hcX)
  have HL := Lib.hid (hL.nob hcX)
  have HU := Lib.hid hU
  have Hm := Lib.hid hm
  have HB : Hid (∀ W, Chg Nob X W → (W.cell? ⟨w.heap.size, 0, none⟩ = some (.slice ai I.length ci) ∧ W.cell? ⟨w.heap.size, 1, none⟩ = some (.slice as' S.length cs)) ∧ W.cell? ⟨w.heap.size + 1, 0, none⟩ = some (.slice ap P.length cp) ∧ W.cell? ⟨w.heap.size + 1, 1, none⟩ = some (.slice al L.length cl)) := (show ∀ W, Chg Nob X W → (_ ∧ _) ∧ _ ∧ _ from fun W hW => ⟨⟨hW.cell' c0 (fun e => e), hW.cell' c1 (fun e => e)⟩, hW.cell' d0 (fun e => e), hW.cell' d1 (fun e => e)⟩)
  have hpc : Calls Tryz.prog 24 #[.agg #[.slice ai I.length ci, .slice as' S.length cs]] X fun e w' => e = .returned (.int .i64 (checkAN I S)) ∧ Chg Nob X w' := racheck_any hI hS HI.out HS.out
  rw [hX] at c0 c1 d0 d1
  obtain ⟨code, hcode⟩ : ∃ code, code = checkAN I S := ⟨_, rfl⟩
  rw [← hcode] at hpc
  have Hcode := Lib.hid hcode
  clear h k hb0 hb1 hcX hsX hP hL hcode hU hm
  go_enter Tryz.func25, Tryz.ntmps25
  go_wp2_with fail
  rw [← hX]
  clear hX c0 c1 d0 d1
  (with_reducible refine hpc.mono ?_)
  clear hpc
  rintro e w1 ⟨rfl, hc1⟩
  have Hc1 := Lib.hid hc1
  clear hc1
  obtain ⟨⟨c0, c1⟩, d0, d1⟩ := HB.out w1 Hc1.out
  cases h0 : (code == 0) with
  | false =>
    have hne : (code != 0) = true := by rw [bne, h0]; rfl
    have Hr : Hid (accCode I S P.length L.length = code ∧ raccB I S P L = false) := (show _ ∧ _ by
      have hn : checkAN I S ≠ 0 := by rw [← Hcode.out]; exact beq_eq_false_iff_ne.1 h0
      have h1 : accCode I S P.length L.length = code := by unfold accCode; rw [if_pos hn, Hcode.out]
      refine ⟨h1, ?_⟩
      unfold raccB
      rw [h1, decide_eq_false (beq_eq_false_iff_ne.1 h0)]; rfl)
    go_wp2_with fail
    refine bodyPost_ret (results_tmp2 rfl _ _ _) rfl ?_
    exact ⟨by rw [Hr.out.1, Hr.out.2]; rfl, HcX.out.trans1 Hc1.out⟩
  | true =>
    have hne : (code != 0) = false := by rw [bne, h0]; rfl
    have Hck : Hid (checkAN I S = 0) := (show checkAN I S = 0 by rw [← Hcode.out]; exact beq_iff_eq.1 h0)
    have hpl : Calls Tryz.prog 10 #[.agg #[.slice ap P.length cp, .slice al L.length cl]] w1 fun e w' => e = .returned (.int .i64 (lcheckN P.length L.length)) ∧ Chg Nob w1 w' := rlcheckb_any P.length L.length hl
    obtain ⟨lc, hlc⟩ : ∃ lc, lc = lcheckN P.length L.length := ⟨_, rfl⟩
    rw [← hlc] at hpl
    have Hlc := Lib.hid hlc
    clear hlc Hcode
    go_wp2_with fail
    (with_reducible refine hpl.mono ?_)
    clear hpl c0 c1 d0 d1
    rintro e w2 ⟨rfl, hc2⟩
    have Hc2 : Hid (Chg Nob X w2) := (show Chg Nob X w2 from Hc1.out.trans1 hc2)
    clear hc2 Hc1
    obtain ⟨⟨c0, c1⟩, d0, d1⟩ := HB.out w2 Hc2.out
    have Hac : Hid (accCode I S P.length L.length = lc) := (show accCode I S P.length L.length = lc by unfold accCode; rw [if_neg (fun h => h Hck.out), Hlc.out])
    cases h1 : (lc == 0) with
    | false =>
      have hne1 : (lc != 0) = true := by rw [bne, h1]; rfl
      have Hr : Hid (raccB I S P L = false) := (show raccB I S P L = false by unfold raccB; rw [Hac.out, decide_eq_false (beq_eq_false_iff_ne.1 h1)]; rfl)
      go_wp2_with fail
      refine bodyPost_ret (results_tmp2 rfl _ _ _) rfl ?_
      exact ⟨by rw [Hac.out, Hr.out]; rfl, HcX.out.trans1 Hc2.out⟩
    | true =>
      have hne1 : (lc != 0) = false := by rw [bne, h1]; rfl
      obtain ⟨hl0, hl4⟩ := lcheck_okz (np := P.length) (nl := L.length) (by rw [← Hlc.out]; exact beq_iff_eq.1 h1)
      have hfine : fineA I S := by
        have := Hck.out
        unfold checkAN at this
        by_cases hf : fineA I S
        · exact hf
        · rw [if_neg hf] at this; cases this
      have Hfine := Lib.hid hfine
      obtain ⟨RR, hRR⟩ : ∃ RR, RR = rowsR S (P ++ L) P.length S.length := ⟨_, rfl⟩
      have hRl : RR.length = S.length := by rw [hRR, rowsR_length]
      have Hr : Hid (raccB I S P L = I.any fun l => allB RR l) := (show raccB I S P L = _ by unfold raccB; rw [Hac.out, decide_eq_true (beq_iff_eq.1 h1), ← hRR]; rfl)
      have hpr := rruns_any (I := I) (ai := ai) (ci := ci) (cs := cs) (cp := cp) (cl := cl) (HS.out.nob Hc2.out) hl4 hl0 (HP.out.nob Hc2.out) (HL.out.nob Hc2.out) HU.out hfine.1 Hm.out hfine.2.2.2.1
      rw [← hRR] at hpr
      have HlcZ : Hid (lc = 0) := Lib.hid (beq_iff_eq.1 h1)
      have Hl0 : Hid (0 < (P ++ L).length ∧ (P ++ L).length ≤ 4096 ∧ S.length ≤ 4096 ∧ RR.length = S.length) := (show _ ∧ _ ∧ _ ∧ _ from ⟨by rw [List.length_append]; omega, by rw [List.length_append]; omega, hfine.1, hRl⟩)
      clear hfine hRR hRl hl hl0 hl4
      go_wp2_with fail
      (with_reducible refine hpr.mono ?_)
      clear hpr c0 c1 d0 d1
      rintro e w3 ⟨hc3, gr, gs, rfl, hrows⟩
      have Hc3 : Hid (Chg Nob X w3) := (show Chg Nob X w3 from Hc2.out.trans1 hc3)
      have Hrows := Lib.hid hrows
      clear hc3 hrows Hc2
      obtain ⟨N, hN⟩ : ∃ N, N = (P ++ L).length := ⟨_, rfl⟩
      rw [← hN] at Hrows Hl0
      clear hN
      have hS4 : S.length ≤ 4096 := Hl0.out.2.2.1
      have hNp : (0 : Int) < (N : Int) := by have := Hl0.out.1; omega
      go_wp2_with fail
      go_loopw [8] (fun iv wr => ∃ i : Nat, iv = .int .i64 (i : Int) ∧ i ≤ I.length ∧ Hid (∀ (j : Nat) l, j < i → I[j]? = some l → allB RR l = false) ∧ Hid (Chg Nob w3 wr)) (fun iv _ => I.length - (intOf iv).toNat)
      case atStart => exact ⟨0, rfl, Nat.zero_le _, (by show ∀ (j : Nat) l, j < 0 → _; intro j l hj; omega), Chg.refl _ _⟩
      case round =>
        obtain ⟨i, rfl, hi, Hno, Hc⟩ := hrel
        obtain ⟨⟨c0, c1⟩, d0, d1⟩ := HB.out wr (Hc3.out.trans1 Hc.out)
        by_cases hil : i < I.length
        · obtain ⟨l, hli⟩ : ∃ l, I[i]? = some l := ⟨_, List.getElem?_eq_getElem hil⟩
          obtain ⟨a, at', ct, rfl, hcell, hll, hlr⟩ := (HI.out.nob Hc3.out) i l hli
          have hii : (i : Int) < (I.length : Int) := by omega
          have hi0 : (0 : Int) ≤ (i : Int) := by omega
          have Hset : Hid (∀ z ∈ l, 0 ≤ z ∧ z < (S.length : Int)) := (show ∀ z ∈ l, 0 ≤ z ∧ z < (S.length : Int) from fun z hz => by
            obtain ⟨jj, hjj, rfl⟩ := List.mem_iff_getElem.1 hz
            have h1 := Hfine.out.2.2.1 i hil
            rw [List.getD_eq_getElem?_getD, hli] at h1
            have h2 := h1 jj hjj
            unfold okAt at h2
            simp only [Option.getD_some] at h2
            rw [List.getD_eq_getElem?_getD, List.getElem?_eq_getElem hjj] at h2
            simp only [Option.getD_some] at h2
            omega)
          have HCell : Hid (∀ V, Chg Nob w3 V → V.cell? (a.add i) = some (.slice at' l.length ct)) := (show ∀ V, Chg Nob w3 V → _ from fun V hV => hV.cell' hcell (by unfold Addr.add; split <;> exact fun e => e))
          have Hli := Lib.hid hli
          have Hlr := Lib.hid hlr
          clear hcell hli hlr
          go_wp2_with fail
          go_loopw [9, 10] (fun bv kv wr => ∃ (k : Nat) (ab : Bool), kv = .int .i64 (k : Int) ∧ bv = .bool ab ∧ k ≤ l.length ∧ Hid (ab = allB RR (l.take k)) ∧ Hid (Chg Nob w3 wr)) (fun _ kv _ => l.length - (intOf kv).toNat)
          case atStart => exact ⟨0, true, rfl, rfl, Nat.zero_le _, (show true = allB RR (l.take 0) by rw [List.take_zero]; rfl), Hc⟩
          case round =>
            obtain ⟨k, ab, rfl, rfl, hk, Hab, Hc4⟩ := hrel
            obtain ⟨⟨c0, c1⟩, d0, d1⟩ := HB.out wr (Hc3.out.trans1 Hc4.out)
            have hcell := HCell.out wr Hc4.out
            by_cases hkl : k < l.length
            · obtain ⟨z, hz⟩ : ∃ z, l[k]? = some z := ⟨_, List.getElem?_eq_getElem hkl⟩
              obtain ⟨az, rfl, hzc⟩ := Hlr.out k z hz
              have hzc2 := Hc4.out.cell' hzc (by unfold Addr.add; split <;> exact fun e => e)
              obtain ⟨hz0, hzs⟩ := Hset.out z (List.mem_of_getElem? hz)
              obtain ⟨kz, rfl⟩ : ∃ kz : Nat, z = (kz : Int) := ⟨z.toNat, by omega⟩
              have htk : l.take (k + 1) = l.take k ++ [(kz : Int)] := by
                rw [List.take_succ_eq_append_getElem hkl]
                rw [List.getElem?_eq_getElem hkl] at hz
                simp only [Option.some.injEq] at hz
                rw [hz]
              obtain ⟨g, hg, hgb, hgl⟩ := (Hrows.out.nob Hc4.out).at (k := kz) (by have := Hl0.out.2.2.2; omega)
              obtain ⟨y, hy⟩ : ∃ y, y = (RR.getD kz []).getD 0 false := ⟨_, rfl⟩
              have hgc := hgb.cell (j := 0) (x := y) (by rw [hy]; exact getDb_some (by rw [hgl]; exact Hl0.out.1))
              have hki : (k : Int) < (l.length : Int) := by omega
              have hk0 : (0 : Int) ≤ (k : Int) := by omega
              have Hab2 : Hid ((ab && y) = allB RR (l.take (k + 1))) := (show _ = _ by
                have h1 := Hab.out
                unfold allB at h1 ⊢
                rw [htk, List.all_append, ← h1, hy]
                simp)
              clear hz hzc htk hgb hgl hy Hab
              cases ab with
              | true =>
                go_wp2_with fail
                go_roundw
                case rel => exact ⟨k + 1, y, by go_num, rfl, by omega, (show y = _ from Hab2.out), Hc4⟩
                case measure => simp [intOf]; omega
              | false =>
                go_wp2_with fail
                go_roundw
                case rel => exact ⟨k + 1, false, by go_num, rfl, by omega, (show false = _ from Hab2.out), Hc4⟩
                case measure => simp [intOf]; omega
            · have hke : k = l.length := by omega
              have hki : ¬ (k : Int) < (l.length : Int) := by omega
              have hkid : decide ((k : Int) < (l.length : Int)) = false := decide_eq_false hki
              have hkin : decide (k < l.length) = false := decide_eq_false hkl
              have Hab2 : Hid (ab = allB RR l) := (show ab = allB RR l by have h1 := Hab.out; rw [hke, List.take_length] at h1; exact h1)
              clear hke Hab
              cases ab with
              | true =>
                have H2 : Hid ((I.any fun l => allB RR l) = true) := (show _ = true from List.any_eq_true.2 ⟨l, List.mem_of_getElem? Hli.out, Hab2.out.symm⟩)
                go_wp2_with fail
                refine bodyPost_ret (results_tmp2 rfl _ _ _) rfl ?_
                exact ⟨by rw [Hr.out, H2.out, Hac.out, HlcZ.out]; rfl, (HcX.out.trans1 Hc3.out).trans1 Hc4.out⟩
              | false =>
                have H2 : Hid (∀ (j : Nat) l', j < i + 1 → I[j]? = some l' → allB RR l' = false) := (show ∀ (j : Nat) l', j < i + 1 → I[j]? = some l' → allB RR l' = false from fun j l' hj hl' => by
                  by_cases e : j = i
                  · subst e; rw [Hli.out] at hl'; cases hl'; exact Hab2.out.symm
                  · exact Hno.out j l' (by omega) hl')
                go_wp2_with fail
                go_roundw
                case rel => exact ⟨i + 1, by go_num, by omega, H2, Hc4⟩
                case measure => simp [intOf]; omega
        · obtain rfl : i = I.length := by omega
          have H2 : Hid ((I.any fun l => allB RR l) = false) := (show _ = false by
            rw [List.any_eq_false]
            intro l hl
            obtain ⟨j, hj, rfl⟩ := List.mem_iff_getElem.1 hl
            rw [Hno.out j _ hj (List.getElem?_eq_getElem hj)]
            exact Bool.false_ne_true)
          go_wp2_with fail
          refine bodyPost_ret (results_tmp2 rfl _ _ _) rfl ?_
          exact ⟨by rw [Hr.out, H2.out, Hac.out, HlcZ.out]; rfl, (HcX.out.trans1 Hc3.out).trans1 Hc.out⟩
end
end Go.Proofs.YtkgfdgfhpdhhaaaGreat
namespace Go.Proofs.YtkgfdgfhpdhhaaaGreat.PL
section
variable {np n : Nat} {A B : List Bool}
def goesF (A B : List Bool) (e : Bool) (p : Nat) : Nat → Bool
  | 0 => e
  | m + 1 => A.getD p false || (B.getD p false && goesF A B e (p + 1) m)
theorem sweepTo_length (L : List Bool) : ∀ m, (sweepTo np n A B m L).length = L.length := by
  intro m
  induction m generalizing L with
  | zero => rfl
  | succ m ih => rw [sweepTo, ih, updL, List.length_set]
theorem sweep_goes (e : Bool) : ∀ (m : Nat) (L : List Bool), L.length = n → m ≤ n → (m = n → L.getD np false = e) → (∀ p, m ≤ p → p < n → L.getD p false = goesF A B e p (n - p)) → ∀ p, p < n → (sweepTo np n A B m L).getD p false = goesF A B e p (n - p) := by
  intro m
  induction m with
  | zero => intro L hl _ _ h p hp; exact h p (Nat.zero_le _) hp
  | succ m ih =>
    intro L hl hm he h p hp
    rw [sweepTo]
    refine ih _ (by rw [updL, List.length_set]; exact hl) (by omega) (fun e1 => by omega) (fun q hq hqn => ?_) p hp
    rw [updL]
    by_cases hqm : q = m
    · subst hqm
      rw [List.getD_eq_getElem?_getD, List.getElem?_set_self (by omega)]
      rw [show n - q = (n - (q + 1)) + 1 by omega, goesF]
      unfold nextN
      split
      · rename_i h1
        rw [he h1, show n - (q + 1) = 0 by omega]; rfl
      · rw [h (q + 1) (by omega) (by omega)]; rfl
    · rw [List.getD_eq_getElem?_getD, List.getElem?_set_ne (Ne.symm hqm), ← List.getD_eq_getElem?_getD]
      exact h q (by omega) hqn
def stN (np n : Nat) : Nat → Nat → Nat
  | 0, p => p
  | d + 1, p => stN np n d (nextN np n p)
theorem stN_add (d e p : Nat) : stN np n (d + e) p = stN np n e (stN np n d p) := by
  induction d generalizing p with
  | zero => rw [Nat.zero_add]; rfl
  | succ d ih => rw [Nat.succ_add]; exact ih _
theorem stN_one (d p : Nat) : stN np n (d + 1) p = nextN np n (stN np n d p) := by rw [stN_add]; rfl
theorem stN_small {d p : Nat} (h : p + d < n) : stN np n d p = p + d := by
  induction d generalizing p with
  | zero => rfl
  | succ d ih =>
    rw [stN, show nextN np n p = p + 1 by unfold nextN; rw [if_neg (by omega)], ih (by omega)]; omega
theorem stN_round (hnp : np < n) : stN np n (n - np) np = np := by
  rw [show n - np = (n - np - 1) + 1 by omega, stN_one, stN_small (by omega)]
  unfold nextN
  rw [if_pos (by omega)]
theorem stN_mod (hnp : np < n) (d : Nat) : stN np n d np = np + d % (n - np) := by
  induction d using Nat.strongRecOn with
  | ind d ih =>
    rcases Nat.lt_or_ge d (n - np) with h | h
    · rw [stN_small (by omega), Nat.mod_eq_of_lt h]
    · rw [show d = (n - np) + (d - (n - np)) by omega, stN_add, stN_round hnp, ih _ (by omega), Nat.add_mod_left]
def FX (b : Bool) (A B : Nat → Prop) (i : Nat) : Prop := (∃ d, A (i + d) ∧ ∀ j, j < d → B (i + j)) ∨ (b = true ∧ ∀ j, B (i + j))
theorem FX.step {b : Bool} {A B : Nat → Prop} {i : Nat} : FX b A B i ↔ A i ∨ (B i ∧ FX b A B (i + 1)) := by
  unfold FX
  constructor
  · rintro (⟨d, h, k⟩ | ⟨h, k⟩)
    · cases d with
      | zero => exact .inl h
      | succ d => exact .inr ⟨k 0 (by omega), .inl ⟨d, by rw [Nat.add_assoc, Nat.add_comm 1]; exact h, fun j hj => by rw [Nat.add_assoc, Nat.add_comm 1]; exact k (j + 1) (by omega)⟩⟩
    · exact .inr ⟨k 0, .inr ⟨h, fun j => by rw [Nat.add_assoc, Nat.add_comm 1]; exact k (j + 1)⟩⟩
  · rintro (h | ⟨h, ⟨d, h1, k⟩ | ⟨h1, k⟩⟩)
    · exact .inl ⟨0, h, fun j hj => absurd hj (Nat.not_lt_zero j)⟩
    · refine .inl ⟨d + 1, by rw [Nat.add_comm d, ← Nat.add_assoc]; exact h1, fun j hj => ?_⟩
      cases j with
      | zero => exact h
      | succ j => rw [Nat.add_comm j, ← Nat.add_assoc]; exact k j (by omega)
    · refine .inr ⟨h1, fun j => ?_⟩
      cases j with
      | zero => exact h
      | succ j => rw [Nat.add_comm j, ← Nat.add_assoc]; exact k j
def atS (np n p : Nat) (A : List Bool) (d : Nat) : Prop := A.getD (stN np n d p) false = true
theorem goesF_iff {e : Bool} {p m : Nat} : goesF A B e p m = true ↔ (∃ d, d < m ∧ A.getD (p + d) false = true ∧ ∀ j, j < d → B.getD (p + j) false = true) ∨ (e = true ∧ ∀ j, j < m → B.getD (p + j) false = true) := by
  induction m generalizing p with
  | zero => simp [goesF]
  | succ m ih =>
    rw [goesF, Bool.or_eq_true, Bool.and_eq_true, ih]
    constructor
    · rintro (h | ⟨h, ⟨d, h0, h1, h2⟩ | ⟨h1, h2⟩⟩)
      · exact .inl ⟨0, by omega, h, fun j hj => absurd hj (Nat.not_lt_zero j)⟩
      · refine .inl ⟨d + 1, by omega, by rw [Nat.add_comm d, ← Nat.add_assoc]; exact h1, fun j hj => ?_⟩
        cases j with
        | zero => exact h
        | succ j => rw [Nat.add_comm j, ← Nat.add_assoc]; exact h2 j (by omega)
      · refine .inr ⟨h1, fun j hj => ?_⟩
        cases j with
        | zero => exact h
        | succ j => rw [Nat.add_comm j, ← Nat.add_assoc]; exact h2 j (by omega)
    · rintro (⟨d, h0, h1, h2⟩ | ⟨h1, h2⟩)
      · cases d with
        | zero => exact .inl h1
        | succ d => exact .inr ⟨h2 0 (by omega), .inl ⟨d, by omega, by rw [Nat.add_assoc, Nat.add_comm 1]; exact h1, fun j hj => by rw [Nat.add_assoc, Nat.add_comm 1]; exact h2 (j + 1) (by omega)⟩⟩
      · exact .inr ⟨h2 0 (by omega), .inr ⟨h1, fun j hj => by rw [Nat.add_assoc, Nat.add_comm 1]; exact h2 (j + 1) (by omega)⟩⟩
theorem goesF_loop (hnp : np < n) (b : Bool) : goesF A B b np (n - np) = true ↔ FX b (atS np n np A) (atS np n np B) 0 := by
  rw [goesF_iff]
  unfold FX atS
  constructor
  · rintro (⟨d, h0, h1, h2⟩ | ⟨h1, h2⟩)
    · refine .inl ⟨d, ?_, fun j hj => ?_⟩
      · rw [Nat.zero_add, stN_small (by omega)]; exact h1
      · rw [Nat.zero_add, stN_small (by omega)]; exact h2 j hj
    · refine .inr ⟨h1, fun j => ?_⟩
      rw [Nat.zero_add, stN_mod hnp]
      exact h2 _ (Nat.mod_lt _ (by omega))
  · rintro (⟨d, h1, h2⟩ | ⟨h1, h2⟩)
    · rw [Nat.zero_add, stN_mod hnp] at h1
      refine .inl ⟨d % (n - np), Nat.mod_lt _ (by omega), h1, fun j hj => ?_⟩
      have hd : d % (n - np) ≤ d := Nat.mod_le _ _
      have hd2 : d % (n - np) < n - np := Nat.mod_lt _ (by omega)
      have := h2 j (by omega)
      rw [Nat.zero_add, stN_small (by omega)] at this
      exact this
    · refine .inr ⟨h1, fun j hj => ?_⟩
      have := h2 j
      rw [Nat.zero_add, stN_small (by omega)] at this
      exact this
theorem FX_next {b : Bool} {p : Nat} : FX b (atS np n (nextN np n p) A) (atS np n (nextN np n p) B) 0 ↔ FX b (atS np n p A) (atS np n p B) 1 := by
  unfold FX atS
  simp only [Nat.add_comm 1, Nat.zero_add]
  rfl
theorem fixL_at (hnp : np < n) (b : Bool) {p : Nat} (hp : p < n) : (fixL np n A B b).getD p false = true ↔ FX b (atS np n p A) (atS np n p B) 0 := by
  have h1 : ∀ p, p < n → (sweepTo np n A B n (List.replicate n b)).getD p false = goesF A B b p (n - p) :=
    sweep_goes b n _ List.length_replicate (Nat.le_refl _) (fun _ => by rw [List.getD_eq_getElem?_getD, List.getElem?_replicate_of_lt hnp]; rfl) (fun p h h2 => by omega)
  have h2 : ∀ p, p < n → (fixL np n A B b).getD p false = goesF A B (goesF A B b np (n - np)) p (n - p) := by
    refine sweep_goes _ n _ (by rw [sweepTo_length, List.length_replicate]) (Nat.le_refl _) (fun _ => h1 np hnp) (fun p h h2 => by omega)
  rw [h2 p hp]
  have key : ∀ m p, p + m + 1 = n → (goesF A B (goesF A B b np (n - np)) p (m + 1) = true ↔ FX b (atS np n p A) (atS np n p B) 0) := by
    intro m
    induction m with
    | zero =>
      intro p hp
      rw [goesF, goesF, Bool.or_eq_true, Bool.and_eq_true, goesF_loop hnp, FX.step (A := atS np n p A) (B := atS np n p B)]
      have := FX_next (b := b) (np := np) (n := n) (p := p) (A := A) (B := B)
      rw [show nextN np n p = np by unfold nextN; rw [if_pos (by omega)]] at this
      rw [this]; rfl
    | succ m ih =>
      intro p hp
      rw [goesF, Bool.or_eq_true, Bool.and_eq_true, ih (p + 1) (by omega), FX.step (A := atS np n p A) (B := atS np n p B)]
      have := FX_next (b := b) (np := np) (n := n) (p := p) (A := A) (B := B)
      rw [show nextN np n p = p + 1 by unfold nextN; rw [if_neg (by omega)]] at this
      rw [this]; rfl
  have := key (n - p - 1) p (by omega)
  rwa [show n - p - 1 + 1 = n - p by omega] at this
end
end Go.Proofs.YtkgfdgfhpdhhaaaGreat.PL
namespace Go.Proofs.YtkgfdgfhpdhhaaaGreat
open PL (stN atS FX)
section
variable {np n : Nat} {A B : List Bool}
theorem stN_soon (hnp : np < n) {p : Nat} (hp : p < n) (d : Nat) : ∃ d', d' ≤ n ∧ d' ≤ d ∧ stN np n d' p = stN np n d p := by
  by_cases h : p + d < n
  · exact ⟨d, by omega, Nat.le_refl _, rfl⟩
  · -- behind the end
    have e1 : stN np n (n - p) p = np := by
      have h1 : stN np n (n - p - 1) p = n - 1 := by rw [PL.stN_small (by omega)]; omega
      have h2 := PL.stN_one (np := np) (n := n) (n - p - 1) p
      rw [h1, show n - p - 1 + 1 = n - p by omega] at h2
      rw [h2]
      unfold nextN
      rw [if_pos (by omega)]
    have e2 : stN np n d p = np + (d - (n - p)) % (n - np) := by
      have h1 := PL.stN_add (np := np) (n := n) (n - p) (d - (n - p)) p
      rw [show n - p + (d - (n - p)) = d by omega, e1, PL.stN_mod hnp] at h1
      exact h1
    obtain ⟨r, hr⟩ : ∃ r, r = (d - (n - p)) % (n - np) := ⟨_, rfl⟩
    have hrl : r < n - np := by rw [hr]; exact Nat.mod_lt _ (by omega)
    have hrd : r ≤ d - (n - p) := by rw [hr]; exact Nat.mod_le _ _
    rw [← hr] at e2
    by_cases h3 : p ≤ np + r
    · exact ⟨np + r - p, by omega, by omega, by rw [PL.stN_small (by omega), e2]; omega⟩
    · refine ⟨n - p + r, by omega, by omega, ?_⟩
      rw [PL.stN_add, e1, PL.stN_mod hnp, Nat.mod_eq_of_lt hrl, e2]
theorem walkR_iff (b : Bool) : ∀ (f p : Nat), walkR A B b np n f p = true ↔ (∃ d, d ≤ f ∧ atS np n p A d ∧ ∀ j, j < d → atS np n p B j) ∨ (b = true ∧ ∀ j, j < f → atS np n p B j)
  | 0, p => by
    unfold walkR
    rw [Bool.or_eq_true]
    constructor
    · rintro (h | h)
      · exact Or.inl ⟨0, Nat.le_refl _, h, fun j hj => absurd hj (Nat.not_lt_zero j)⟩
      · exact Or.inr ⟨h, fun j hj => absurd hj (Nat.not_lt_zero j)⟩
    · rintro (⟨d, hd, ha, _⟩ | ⟨h, _⟩)
      · obtain rfl : d = 0 := by omega
        exact Or.inl ha
      · exact Or.inr h
  | f + 1, p => by
    have ih := walkR_iff b f (nextN np n p)
    have hA0 : atS np n p A 0 ↔ A.getD p false = true := Iff.rfl
    have hB0 : atS np n p B 0 ↔ B.getD p false = true := Iff.rfl
    have hs : ∀ (Q : List Bool) (j : Nat), atS np n p Q (j + 1) ↔ atS np n (nextN np n p) Q j := fun Q j => Iff.rfl
    have hw : walkR A B b np n (f + 1) p = true ↔ (A.getD p false = true ∨ (B.getD p false = true ∧ walkR A B b np n f (nextN np n p) = true)) := by
      rw [walkR]
      cases A.getD p false <;> cases B.getD p false <;> simp
    rw [hw, ih]
    constructor
    · rintro (h | ⟨hb, ⟨d, hd, ha, hall⟩ | ⟨hbb, hall⟩⟩)
      · exact Or.inl ⟨0, Nat.zero_le _, h, fun j hj => absurd hj (Nat.not_lt_zero j)⟩
      · refine Or.inl ⟨d + 1, by omega, (hs A d).2 ha, fun j hj => ?_⟩
        cases j with
        | zero => exact hb
        | succ j => exact (hs B j).2 (hall j (by omega))
      · refine Or.inr ⟨hbb, fun j hj => ?_⟩
        cases j with
        | zero => exact hb
        | succ j => exact (hs B j).2 (hall j (by omega))
    · rintro (⟨d, hd, ha, hall⟩ | ⟨hbb, hall⟩)
      · cases d with
        | zero => exact Or.inl ha
        | succ d => exact Or.inr ⟨hall 0 (by omega), Or.inl ⟨d, by omega, (hs A d).1 ha, fun j hj => (hs B j).1 (hall (j + 1) (by omega))⟩⟩
      · exact Or.inr ⟨hall 0 (by omega), Or.inr ⟨hbb, fun j hj => (hs B j).1 (hall (j + 1) (by omega))⟩⟩
theorem walkR_fix (hnp : np < n) (b : Bool) {p : Nat} (hp : p < n) : walkR A B b np n (n + 1) p = (fixL np n A B b).getD p false := by
  have h1 := walkR_iff (np := np) (n := n) (A := A) (B := B) b (n + 1) p
  have h2 := PL.fixL_at (A := A) (B := B) hnp b hp
  have h3 : ((∃ d, d ≤ n + 1 ∧ atS np n p A d ∧ ∀ j, j < d → atS np n p B j) ∨ (b = true ∧ ∀ j, j < n + 1 → atS np n p B j)) ↔ FX b (atS np n p A) (atS np n p B) 0 := by
    have hsoon : ∀ (Q : List Bool) (d : Nat), ∃ d', d' ≤ n ∧ d' ≤ d ∧ (atS np n p Q d' ↔ atS np n p Q d) := fun Q d => by
      obtain ⟨d', a, c, e⟩ := stN_soon hnp hp d
      exact ⟨d', a, c, by unfold PL.atS; rw [e]⟩
    unfold PL.FX
    simp only [Nat.zero_add]
    constructor
    · rintro (⟨d, _, ha, hall⟩ | ⟨hb, hall⟩)
      · exact Or.inl ⟨d, ha, hall⟩
      · refine Or.inr ⟨hb, fun j => ?_⟩
        obtain ⟨d', a, _, e⟩ := hsoon B j
        exact e.1 (hall d' (by omega))
    · rintro (⟨d, ha, hall⟩ | ⟨hb, hall⟩)
      · obtain ⟨d', a, c, e⟩ := hsoon A d
        exact Or.inl ⟨d', by omega, e.2 ha, fun j hj => hall j (by omega)⟩
      · exact Or.inr ⟨hb, fun j _ => hall j⟩
  have h4 : walkR A B b np n (n + 1) p = true ↔ (fixL np n A B b).getD p false = true := by rw [h1, h3, h2]
  cases ha : walkR A B b np n (n + 1) p <;> cases hb : (fixL np n A B b).getD p false
  · rfl
  · rw [ha, hb] at h4; exact (Bool.false_ne_true (h4.2 rfl)).elim
  · rw [ha, hb] at h4; exact (Bool.false_ne_true (h4.1 rfl)).elim
  · rfl
end
theorem any_split (h o a : Mvi → Bool) (x : Bool) : ∀ ms : List Mvi, ms.any (fun m => h m && (o m && (!a m || x))) = (ms.any (fun m => (h m && o m) && (a m == false)) || (ms.any (fun m => (h m && o m) && (a m == true)) && x))
  | [] => by cases x <;> rfl
  | m :: ms => by
    rw [List.any_cons, List.any_cons, List.any_cons, any_split h o a x ms]
    cases h m <;> cases o m <;> cases a m <;> cases x <;> simp
theorem allR_split (R : List (List Bool)) (l : List Bool) (q n : Nat) (hR : R.length = n) : ∀ ks : List Int, (∀ k ∈ ks, 0 ≤ k ∧ k ≤ (n : Int)) → allR (R ++ [l]) ks q = (othersR R ks n q && (!(ks.any fun k => k == (n : Int)) || l.getD q false))
  | [], _ => by unfold allR othersR; simp
  | k :: ks, hk => by
    have ih := allR_split R l q n hR ks (fun x hx => hk x (List.mem_cons_of_mem _ hx))
    obtain ⟨h0, h1⟩ := hk k (List.mem_cons_self ..)
    unfold allR othersR at ih ⊢
    rw [List.any_cons, List.all_cons, List.any_cons, Bool.not_or, ih]
    by_cases e : k = (n : Int)
    · have e1 : (k == (n : Int)) = true := beq_iff_eq.2 e
      have e2 : ((R ++ [l]).getD k.toNat []).getD q false = l.getD q false := by
        rw [List.getD_eq_getElem?_getD (l := R ++ [l]), show k.toNat = R.length by omega, List.getElem?_append_right (Nat.le_refl _), Nat.sub_self]; rfl
      rw [e1, e2]
      generalize l.getD q false = x
      generalize (ks.all fun k => k == (n : Int) || (R.getD k.toNat []).getD q false) = y
      generalize (ks.any fun k => k == (n : Int)) = z
      cases x <;> cases y <;> cases z <;> rfl
    · have e1 : (k == (n : Int)) = false := beq_eq_false_iff_ne.2 e
      have e2 : ((R ++ [l]).getD k.toNat []).getD q false = (R.getD k.toNat []).getD q false := by
        rw [List.getD_eq_getElem?_getD (l := R ++ [l]), List.getElem?_append_left (by omega), ← List.getD_eq_getElem?_getD]
      rw [e1, e2]
      generalize l.getD q false = x
      generalize (R.getD k.toNat []).getD q false = u
      generalize (ks.all fun k => k == (n : Int) || (R.getD k.toNat []).getD q false) = y
      generalize (ks.any fun k => k == (n : Int)) = z
      cases x <;> cases y <;> cases z <;> cases u <;> rfl
theorem leavesR_getD {R : List (List Bool)} {ms : List Mvi} {M : List Int} {np n : Nat} {own : Bool} {j : Nat} (hj : j < M.length) : (leavesR R ms M np n own).getD j false = stepB R ms M np n j own := by
  unfold leavesR
  rw [List.getD_eq_getElem?_getD, List.getElem?_map, List.getElem?_range hj]; rfl
theorem updA_updL {R : List (List Bool)} {ms : List Mvi} {M : List Int} {np n : Nat} (hR : R.length = n) (hto : ∀ m ∈ ms, ∀ k ∈ m.to, 0 ≤ k ∧ k ≤ (n : Int)) {l : List Bool} {j : Nat} (hj : j < M.length) : updA R ms M np l j = updL np M.length (leavesR R ms M np n false) (leavesR R ms M np n true) l j := by
  unfold updA updL
  rw [leavesR_getD hj, leavesR_getD hj]
  congr 1
  have h := any_split (fun m => hasI m.yes m.no (M.getD j 0)) (fun m => othersR R m.to n (nextN np M.length j)) (fun m => m.to.any fun k => k == (n : Int)) (l.getD (nextN np M.length j) false) ms
  unfold stepB
  have e : ∀ own, (stepM R M np n j own) = fun m => (hasI m.yes m.no (M.getD j 0) && othersR R m.to n (nextN np M.length j)) && ((m.to.any fun k => k == (n : Int)) == own) := fun own => by funext m; rfl
  rw [e, e, ← h]
  have e2 : ∀ ms' : List Mvi, (∀ m ∈ ms', ∀ k ∈ m.to, 0 ≤ k ∧ k ≤ (n : Int)) → (ms'.any fun m => hasI m.yes m.no (M.getD j 0) && allR (R ++ [l]) m.to (nextN np M.length j)) = ms'.any fun m => hasI m.yes m.no (M.getD j 0) && (othersR R m.to n (nextN np M.length j) && (!(m.to.any fun k => k == (n : Int)) || l.getD (nextN np M.length j) false)) := by
    intro ms'
    induction ms' with
    | nil => intro _; rfl
    | cons m ms' ih =>
      intro hh
      rw [List.any_cons, List.any_cons, ih (fun x hx => hh x (List.mem_cons_of_mem _ hx)), allR_split R l _ n hR m.to (hh m (List.mem_cons_self ..))]
  exact e2 ms hto
theorem sweepA_to {R : List (List Bool)} {ms : List Mvi} {M : List Int} {np n : Nat} (hR : R.length = n) (hto : ∀ m ∈ ms, ∀ k ∈ m.to, 0 ≤ k ∧ k ≤ (n : Int)) : ∀ (m : Nat) (l : List Bool), m ≤ M.length → sweepA R ms M np m l = sweepTo np M.length (leavesR R ms M np n false) (leavesR R ms M np n true) m l
  | 0, _, _ => rfl
  | m + 1, l, h => by rw [sweepA, sweepTo, updA_updL hR hto (by omega), sweepA_to hR hto m _ (by omega)]
theorem rowI_rowR {R : List (List Bool)} {s : Sti} {M : List Int} {np n : Nat} (hR : R.length = n) (hto : ∀ m ∈ s.moves, ∀ k ∈ m.to, 0 ≤ k ∧ k ≤ (n : Int)) (hnp : np < M.length) : rowI R s M np = rowR R s M np n := by
  have e : rowI R s M np = fixL np M.length (leavesR R s.moves M np n false) (leavesR R s.moves M np n true) (!s.fin) := by
    unfold rowI timesA timesA timesA fixL
    rw [sweepA_to hR hto _ _ (Nat.le_refl _), sweepA_to hR hto _ _ (Nat.le_refl _)]
  unfold rowR
  refine range_list (rowI_len R s M np) (fun q hq => ?_)
  have hl := rowI_len R s M np
  rw [walkR_fix hnp _ hq, ← e]
  exact getDb_some (by omega)
theorem state_to {s : Sti} {n : Nat} (h : stateP s n) : ∀ m ∈ s.moves, ∀ k ∈ m.to, 0 ≤ k ∧ k ≤ (n : Int) := fun m hm k hk => by
  obtain ⟨i, hi, rfl⟩ := List.mem_iff_getElem.1 hm
  have h1 := (h i hi).2
  rw [List.getD_eq_getElem?_getD, List.getElem?_eq_getElem hi] at h1
  obtain ⟨j, hj, rfl⟩ := List.mem_iff_getElem.1 hk
  have h2 := h1 j hj
  unfold okAt at h2
  simp only [Option.getD_some] at h2
  rw [List.getD_eq_getElem?_getD, List.getElem?_eq_getElem hj] at h2
  simp only [Option.getD_some] at h2
  omega
theorem rowsI_rowsR {S : List Sti} {M : List Int} {np : Nat} (hnp : np < M.length) (h : ∀ n, n < S.length → stateP (S.getD n s0) n) : ∀ n, n ≤ S.length → rowsI S M np n = rowsR S M np n
  | 0, _ => rfl
  | n + 1, hn => by
    rw [rowsI, rowsR, rowsI_rowsR hnp h n (by omega), rowI_rowR (rowsR_length S M np n) (state_to (h n (by omega))) hnp]
theorem accB_raccB (I : List (List Int)) (S : List Sti) (P L : List Int) : accB I S P L = raccB I S P L := by
  unfold accB raccB
  by_cases hc : accCode I S P.length L.length = 0
  · have hck : checkAN I S = 0 := by
      unfold accCode at hc
      split at hc
      · exact hc
      · rename_i h; exact Decidable.not_not.1 h
    have hlc : lcheckN P.length L.length = 0 := by unfold accCode at hc; rwa [if_neg (fun h => h hck)] at hc
    have hf : fineA I S := by
      unfold checkAN at hck
      by_cases hf : fineA I S
      · exact hf
      · rw [if_neg hf] at hck; cases hck
    have hl := lcheck_okz hlc
    rw [decide_eq_true hc, Bool.true_and, Bool.true_and]
    unfold accI
    rw [rowsI_rowsR (by rw [List.length_append]; omega) hf.2.2.2.1 S.length (Nat.le_refl _)]
    congr 1
    funext l
    unfold allR allB
    rw [List.not_any_eq_all_not]
    congr 1
    funext k
    exact Bool.not_not _
  · rw [decide_eq_false hc]; rfl
end Go.Proofs.YtkgfdgfhpdhhaaaGreat
namespace Go.Proofs.YtkgfdgfhpdhhaaaGreat
open Go.ChangeShapes Go.WideShapes Go.RowKit
attribute [local go_sem] Oper.semAt_some
def littleB (S : List Sti) (np nl : Nat) : Bool := decide ((S.length + sumN S) * (np + nl) ≤ 200000)
section
variable {w : World} {ai as' ap al : Option Addr} {ci cs cp cl : Nat} {I : List (List Int)} {S : List Sti} {np nl : Nat}
set_option maxRecDepth 100000 in
set_option maxHeartbeats 8000000 in
theorem little_any (hS : S.length ≤ 1100000) (k : SRow w as' S) (hl : np + nl ≤ 1100000) (hsum : S.length + sumN S ≤ 2000000000000) :
    Calls Tryz.prog 13 #[.agg #[.slice ai I.length ci, .slice as' S.length cs], .agg #[.slice ap np cp, .slice al nl cl]] w fun e w' => e = .returned (.bool (littleB S np nl)) ∧ Chg Nob w w' := by
  obtain ⟨X, hX, hcX, hb0, hb1, hsX⟩ : ∃ X, X = (w.alloc (.cells #[.slice ai I.length ci, .slice as' S.length cs] 38)).alloc (.cells #[.slice ap np cp, .slice al nl cl] 28) ∧ Chg Nob w X ∧ X.heap[w.heap.size]? = some (.cells #[.slice ai I.length ci, .slice as' S.length cs] 38 (0, 0)) ∧ X.heap[w.heap.size + 1]? = some (.cells #[.slice ap np cp, .slice al nl cl] 28 (0, 0)) ∧ X.heap.size = w.heap.size + 2 := by
    have h1 := heap_alloc_new (w.alloc (.cells #[.slice ai I.length ci, .slice as' S.length cs] 38)) (.cells #[.slice ap np cp, .slice al nl cl] 28)
    rw [World.size_alloc] at h1
    exact ⟨_, rfl, ((Chg.refl _ _).alloc _).alloc _, ((Chg.refl Nob _).alloc _).at (heap_alloc_new w _) (fun e => e), h1, by rw [World.size_alloc, World.size_alloc]⟩
  obtain ⟨c0, c1, _⟩ := cell_two hb0
  obtain ⟨d0, d1, _⟩ := cell_two hb1
  have HcX := Lib.hid hcX
  have HS := Lib.hid (k.nob hcX)
  have HB : Hid (∀ W, Chg Nob X W → (W.cell? ⟨w.heap.size, 0, none⟩ = some (.slice ai I.length ci) ∧ W.cell? ⟨w.heap.size, 1, none⟩ = some (.slice as' S.length cs)) ∧ W.cell? ⟨w.heap.size + 1, 0, none⟩ = some (.slice ap np cp) ∧ W.cell? ⟨w.heap.size + 1, 1, none⟩ = some (.slice al nl cl)) := (show ∀ W, Chg Nob X W → (_ ∧ _) ∧ _ ∧ _ from fun W hW => ⟨⟨hW.cell' c0 (fun e => e), hW.cell' c1 (fun e => e)⟩, hW.cell' d0 (fun e => e), hW.cell' d1 (fun e => e)⟩)
  have Hsum := Lib.hid hsum
  rw [hX] at c0 c1 d0 d1
  clear k hb0 hb1 hcX hsX hsum
  go_enter Tryz.func13, Tryz.ntmps13
  go_wp2_with fail
  rw [← hX]
  clear hX c0 c1 d0 d1
  go_loopw [5, 6] (fun nv iv wr => ∃ i n : Nat, iv = .int .i64 (i : Int) ∧ nv = .int .i64 (n : Int) ∧ i ≤ S.length ∧ Hid (n = S.length + sumN (S.take i)) ∧ Hid (Chg Nob X wr)) (fun _ iv _ => S.length - (intOf iv).toNat)
  case atStart => exact ⟨0, S.length, rfl, rfl, Nat.zero_le _, (show S.length = S.length + sumN (S.take 0) by rw [List.take_zero]; rfl), Chg.refl _ _⟩
  case round =>
    obtain ⟨i, n, rfl, rfl, hi, Hn, Hc⟩ := hrel
    obtain ⟨⟨c0, c1⟩, d0, d1⟩ := HB.out wr Hc.out
    have hle : ∀ i, sumN (S.take i) ≤ sumN S := fun i => by
      have e : sumN S = sumN (S.take i) + sumN (S.drop i) := by
        unfold sumN
        rw [← List.sum_append, ← List.map_append, List.take_append_drop]
      omega
    by_cases hlt : i < S.length
    · obtain ⟨s, hs⟩ : ∃ s, S[i]? = some s := ⟨_, List.getElem?_eq_getElem hlt⟩
      obtain ⟨b, o, am, cm, rfl, hf, hmv, hml, hmr⟩ := HS.out i s hs
      have hii : (i : Int) < (S.length : Int) := by omega
      have hi0 : (0 : Int) ≤ (i : Int) := by omega
      have hmv2 := Hc.out.cell' hmv (fun e => e)
      have Hn2 : Hid (n + s.moves.length = S.length + sumN (S.take (i + 1))) := (show n + s.moves.length = _ by rw [sumN_take S hs, Hn.out]; omega)
      have hnb : n + s.moves.length ≤ 2000000000000 := by have := hle (i + 1); have := Hn2.out; have := Hsum.out; omega
      clear hf hmv hmr hs hle
      go_wp2_with fail
      go_roundw
      case rel => exact ⟨i + 1, n + s.moves.length, by go_num, by go_num, by omega, Hn2, Hc⟩
      case measure => simp [intOf]; omega
    · have hie : i = S.length := by omega
      have hii : ¬ (i : Int) < (S.length : Int) := by omega
      have hiid : decide ((i : Int) < (S.length : Int)) = false := decide_eq_false hii
      have hiin : decide (i < S.length) = false := decide_eq_false hlt
      have hnS : n = S.length + sumN S := by have h1 := Hn.out; rw [hie, List.take_length] at h1; exact h1
      have hnb : n ≤ 2000000000000 := by have := Hsum.out; omega
      have Hr : Hid (littleB S np nl = decide ((n : Int) * ((np : Int) + (nl : Int)) ≤ 200000)) := (show _ = _ by
        unfold littleB
        rw [← hnS]
        refine decide_eq_decide.2 ?_
        rw [← Int.natCast_add, ← Int.natCast_mul]
        omega)
      have hmul : (n : Int) * ((np : Int) + (nl : Int)) ≤ 2200000000000000000 := by
        have h1 : n * (np + nl) ≤ 2000000000000 * 1100000 := Nat.mul_le_mul hnb hl
        rw [← Int.natCast_add, ← Int.natCast_mul]
        omega
      have hmul0 : (0 : Int) ≤ (n : Int) * ((np : Int) + (nl : Int)) := by
        rw [← Int.natCast_add, ← Int.natCast_mul]
        omega
      clear hle hie hnS
      go_wp2_with fail
      go_ret
      exact ⟨by rw [Hr.out]; rfl, HcX.out.trans1 Hc.out⟩
end
end Go.Proofs.YtkgfdgfhpdhhaaaGreat
namespace Go.Proofs.YtkgfdgfhpdhhaaaGreat
open Go.ChangeShapes Go.WideShapes Go.ChangeAt Go.RowKit
open Go.Proofs.YtkgfdgfhpdhhaaaGreat.Rows (uptoBulk uptoBulkAll)
section
variable {H : Type}
theorem bulk_pos (d : DataW H) : 1 ≤ uptoBulk d := by
  cases d with
  | lit l => cases l <;> simp [uptoBulk]
  | nil => simp [uptoBulk]
  | ptr d => simp [uptoBulk]
  | slice e s => simp [uptoBulk]
  | agg p => simp [uptoBulk]
  | iface t d => simp [uptoBulk]
  | map e => simp [uptoBulk]
  | held h => simp [uptoBulk]
theorem bulk_len : ∀ l : List (DataW H), l.length ≤ uptoBulkAll l
  | [] => Nat.zero_le _
  | d :: l => by
    have h1 := bulk_len l
    have h2 := bulk_pos d
    rw [uptoBulkAll, List.length_cons]
    omega
theorem bulk_mem : ∀ {l : List (DataW H)} {d : DataW H}, d ∈ l → uptoBulk d ≤ uptoBulkAll l
  | a :: l, d, h => by
    rw [uptoBulkAll]
    rcases List.mem_cons.1 h with rfl | h
    · omega
    · have := bulk_mem h; omega
end
section
variable {H : Type} {enc : TypeId × Value → H} {W : World}
theorem open_iints {fuel : Nat} {c : Value} {x : DataW H × List MemPlace} (hf : DataW.trod enc Tryz.prog W 0 (fun _ => true) true fuel 73 [c] = some x) (hb : uptoBulk x.1 ≤ 1048576) :
    ∃ a l cp, c = .slice a l.length cp ∧ l.length ≤ 1048576 ∧ IRow W a l := by
  rcases open_ints Tryz.underlying73 Tryz.underlying3 (by kernel_rfl) hf with ⟨hcs, _⟩ | ⟨a, len', cap', zs, hcs, _, hl, hm, hz, hx, hc, _⟩
  · simp at hcs
    exact ⟨none, [], 0, hcs, Nat.zero_le _, fun j x h => by simp at h⟩
  · simp at hcs hz
    have hlen : (zs.take len').length = len' := by rw [List.length_take]; omega
    have hbd : len' ≤ 1048576 := by
      rw [hx] at hb
      simp only [uptoBulk] at hb
      have h1 := bulk_len (lits (H := H) .i64 (zs.take len'))
      have h2 : (lits (H := H) .i64 (zs.take len')).length = len' := by simp only [lits, List.length_map]; exact hlen
      omega
    refine ⟨some a, zs.take len', cap', by rw [hlen]; exact hcs, by omega, fun j x hj => ⟨a, rfl, ?_⟩⟩
    have hj1 : j < len' := by
      have := (List.getElem?_eq_some_iff.1 hj).1
      omega
    rw [List.getElem?_take, if_pos hj1] at hj
    have h2 := hc j (by omega)
    rw [List.getD_eq_getElem?_getD, hj] at h2
    exact h2
theorem u64_ok {n : Int} (h : (Lit.int .u64 n).wf = true) : okU n := by
  have := bounds_u64 h
  exact ⟨this.1, by omega⟩
def okM (m : Mvi) : Prop := okU m.yes ∧ okU m.no
set_option maxRecDepth 100000 in
theorem open_move {fuel : Nat} {cs : List Value} {x : DataW H × List MemPlace} (h : DataW.trod enc Tryz.prog W 0 (fun _ => true) true fuel 75 cs = some x) (hb : uptoBulk x.1 ≤ 1048576) :
    ∃ m at' ct, cs = [.int .u64 m.yes, .int .u64 m.no, .slice at' m.to.length ct] ∧ m.to.length ≤ 1048576 ∧ IRow W at' m.to ∧ okM m := by
  have c75 : Tryz.prog.cellsOf 75 = 3 := by kernel_rfl
  have c72 : Tryz.prog.cellsOf 72 = 2 := by kernel_rfl
  have c73 : Tryz.prog.cellsOf 73 = 1 := by kernel_rfl
  have c53 : Tryz.prog.cellsOf 53 = 1 := by kernel_rfl
  obtain ⟨y0, y1, n, hx, hl, h0, h1⟩ := trod_struct2 Tryz.underlying75 h
  rw [c75] at hl
  match cs, hl with
  | [v0, v1, v2], _ =>
    simp only [c72, c73, List.drop_zero, List.drop_succ_cons, List.take_succ_cons, List.take_zero] at h0 h1
    obtain ⟨z0, z1, n', hx0, _, g0, g1⟩ := trod_struct2 Tryz.underlying72 h0
    simp only [c53, List.drop_zero, List.drop_succ_cons, List.take_succ_cons, List.take_zero] at g0 g1
    obtain ⟨yes, e0, _, w0⟩ := DataW.trod_int Tryz.underlying53 g0
    obtain ⟨no, e1, _, w1⟩ := DataW.trod_int Tryz.underlying53 g1
    simp at e0 e1
    subst e0 e1
    obtain ⟨a, l, cp, rfl, hll, hr⟩ := open_iints h1 (by rw [hx] at hb; simp only [uptoBulk, uptoBulkAll] at hb; omega)
    exact ⟨⟨yes, no, l⟩, a, cp, rfl, hll, hr, u64_ok w0, u64_ok w1⟩
theorem spot_none {a : Addr} {n : Nat} {cs : List Value} {e : Nat} (he : 0 < e) (hcs : W.cells? 0 (a.add (n * e)) e = some cs) (hn : n = 0) : a.spot = none := by
  subst hn
  obtain ⟨_, hcl, hat⟩ := World.cells?_some hcs
  have h0 := hat 0 he
  rw [List.getElem?_eq_getElem (by omega)] at h0
  simpa [Addr.add] using World.cell?_spot h0
set_option maxRecDepth 100000 in
theorem open_moves {fuel : Nat} {c : Value} {x : DataW H × List MemPlace} (hf : DataW.trod enc Tryz.prog W 0 (fun _ => true) true fuel 67 [c] = some x) (hb : uptoBulk x.1 ≤ 1048576) :
    ∃ a ms cp, c = .slice a ms.length cp ∧ ms.length ≤ 1048576 ∧ MRow W a ms ∧ ∀ m ∈ ms, okM m := by
  have c75 : Tryz.prog.cellsOf 75 = 3 := by kernel_rfl
  rcases Go.Deep.open_slice Tryz.underlying67 hf with ⟨hcs, _⟩ | ⟨a, len, cap, m, n, D, Pl, hcs, _, hl, hm, hmm, hx, hi⟩
  · simp at hcs
    exact ⟨none, [], 0, hcs, Nat.zero_le _, fun j m h => by simp at h, fun m h => by simp at h⟩
  · simp at hcs hmm
    subst hcs
    rw [hx] at hb
    simp only [uptoBulk] at hb
    have hlen : len ≤ 1048576 := by
      have h1 := bulk_len ((List.range len).map D)
      rw [List.length_map, List.length_range] at h1
      omega
    have hD : ∀ i, i < len → uptoBulk (D i) ≤ 1048576 := fun i hi => by
      have h1 := bulk_mem (d := D i) (l := (List.range len).map D) (List.mem_map.2 ⟨i, List.mem_range.2 hi, rfl⟩)
      omega
    obtain ⟨ms, hml, hP⟩ := list_of (P := fun i (m : Mvi) => ∃ b o at' ct, a = ⟨b, o, none⟩ ∧ W.cell? ⟨b, o + i * 3, none⟩ = some (.int .u64 m.yes) ∧ W.cell? ⟨b, o + i * 3 + 1, none⟩ = some (.int .u64 m.no) ∧ W.cell? ⟨b, o + i * 3 + 2, none⟩ = some (.slice at' m.to.length ct) ∧ m.to.length ≤ 1048576 ∧ IRow W at' m.to ∧ okM m) len (fun i hil => by
      obtain ⟨cs', hc, ht⟩ := hi i (by omega)
      rw [c75] at hc
      obtain ⟨mv, at', ct, rfl, htl, htr, hok⟩ := open_move ht (hD i hil)
      obtain ⟨_, _, hat⟩ := World.cells?_some hc
      obtain ⟨b, o, spot⟩ := a
      have hs : spot = none := by
        obtain ⟨cs0, hc0, _⟩ := hi 0 (by omega)
        rw [c75] at hc0
        exact spot_none (a := ⟨b, o, spot⟩) (n := 0) (by decide) hc0 rfl
      subst hs
      have a0 := hat 0 (by decide)
      have a1 := hat 1 (by decide)
      have a2 := hat 2 (by decide)
      rw [Go.WideShapes.add_plain, Go.WideShapes.add_plain] at a0 a1 a2
      simp only [List.getElem?_cons_zero, List.getElem?_cons_succ, Nat.add_zero] at a0 a1 a2
      exact ⟨mv, b, o, at', ct, rfl, a0, a1, a2, htl, htr, hok⟩)
    refine ⟨some a, ms, cap, by rw [hml], by omega, fun j mv hj => ?_, fun mv hmv => ?_⟩
    · obtain ⟨b, o, at', ct, rfl, q0, q1, q2, q3, q4, _⟩ := hP j mv hj
      exact ⟨b, o, at', ct, rfl, q0, q1, q2, by omega, q4⟩
    · obtain ⟨j, hj, rfl⟩ := List.mem_iff_getElem.1 hmv
      obtain ⟨_, _, _, _, _, _, _, _, _, _, hok⟩ := hP j _ (List.getElem?_eq_getElem hj)
      exact hok
set_option maxRecDepth 100000 in
theorem open_states {fuel : Nat} {c : Value} {x : DataW H × List MemPlace} (hf : DataW.trod enc Tryz.prog W 0 (fun _ => true) true fuel 36 [c] = some x) (hb : uptoBulk x.1 ≤ 1048576) :
    ∃ a S cp, c = .slice a S.length cp ∧ S.length ≤ 1048576 ∧ SRow W a S ∧ (∀ s ∈ S, ∀ m ∈ s.moves, okM m) ∧ ∀ s ∈ S, s.moves.length ≤ 1048576 := by
  have c69 : Tryz.prog.cellsOf 69 = 2 := by kernel_rfl
  have c4 : Tryz.prog.cellsOf 4 = 1 := by kernel_rfl
  have c67 : Tryz.prog.cellsOf 67 = 1 := by kernel_rfl
  rcases Go.Deep.open_slice Tryz.underlying36 hf with ⟨hcs, _⟩ | ⟨a, len, cap, m, n, D, Pl, hcs, _, hl, hm, hmm, hx, hi⟩
  · simp at hcs
    exact ⟨none, [], 0, hcs, Nat.zero_le _, fun j m h => by simp at h, fun m h => by simp at h, fun m h => by simp at h⟩
  · simp at hcs hmm
    subst hcs
    rw [hx] at hb
    simp only [uptoBulk] at hb
    have hlen : len ≤ 1048576 := by
      have h1 := bulk_len ((List.range len).map D)
      rw [List.length_map, List.length_range] at h1
      omega
    have hD : ∀ i, i < len → uptoBulk (D i) ≤ 1048576 := fun i hi => by
      have h1 := bulk_mem (d := D i) (l := (List.range len).map D) (List.mem_map.2 ⟨i, List.mem_range.2 hi, rfl⟩)
      omega
    obtain ⟨S, hml, hP⟩ := list_of (P := fun i (s : Sti) => ∃ b o am cm, a = ⟨b, o, none⟩ ∧ W.cell? ⟨b, o + i * 2, none⟩ = some (.bool s.fin) ∧ W.cell? ⟨b, o + i * 2 + 1, none⟩ = some (.slice am s.moves.length cm) ∧ s.moves.length ≤ 1048576 ∧ MRow W am s.moves ∧ ∀ m ∈ s.moves, okM m) len (fun i hil => by
      obtain ⟨cs', hc, ht⟩ := hi i (by omega)
      rw [c69] at hc
      obtain ⟨y0, y1, n', hxx, hcl, h0, h1⟩ := trod_struct2 Tryz.underlying69 ht
      rw [c69] at hcl
      match cs', hcl with
      | [v0, v1], _ =>
        simp only [c4, c67, List.drop_zero, List.drop_succ_cons, List.take_succ_cons, List.take_zero] at h0 h1
        obtain ⟨f, e0, _⟩ := DataW.trod_bool Tryz.underlying4 h0
        simp at e0
        subst e0
        have hDi := hD i hil
        have hxx2 : D i = .agg [y0.1, y1.1] := congrArg Prod.fst hxx
        rw [hxx2] at hDi
        obtain ⟨am, ms, cm, rfl, hml, hmr, hok⟩ := open_moves h1 (by simp only [uptoBulk, uptoBulkAll] at hDi; omega)
        obtain ⟨_, _, hat⟩ := World.cells?_some hc
        obtain ⟨b, o, spot⟩ := a
        have hs : spot = none := by
          obtain ⟨cs0, hc0, _⟩ := hi 0 (by omega)
          rw [c69] at hc0
          exact spot_none (a := ⟨b, o, spot⟩) (n := 0) (by decide) hc0 rfl
        subst hs
        have a0 := hat 0 (by decide)
        have a1 := hat 1 (by decide)
        rw [Go.WideShapes.add_plain, Go.WideShapes.add_plain] at a0 a1
        simp only [List.getElem?_cons_zero, List.getElem?_cons_succ, Nat.add_zero] at a0 a1
        exact ⟨⟨f, ms⟩, b, o, am, cm, rfl, a0, a1, hml, hmr, hok⟩)
    refine ⟨some a, S, cap, by rw [hml], by omega, fun j s hj => ?_, fun s hs => ?_, fun s hs => ?_⟩
    · obtain ⟨b, o, am, cm, rfl, q0, q1, q2, q3, _⟩ := hP j s hj
      exact ⟨b, o, am, cm, rfl, q0, q1, by omega, q3⟩
    · obtain ⟨j, hj, rfl⟩ := List.mem_iff_getElem.1 hs
      obtain ⟨_, _, _, _, _, _, _, _, _, hok⟩ := hP j _ (List.getElem?_eq_getElem hj)
      exact hok
    · obtain ⟨j, hj, rfl⟩ := List.mem_iff_getElem.1 hs
      obtain ⟨_, _, _, _, _, _, _, q, _, _⟩ := hP j _ (List.getElem?_eq_getElem hj)
      exact q
set_option maxRecDepth 100000 in
theorem open_sets {fuel : Nat} {c : Value} {x : DataW H × List MemPlace} (hf : DataW.trod enc Tryz.prog W 0 (fun _ => true) true fuel 35 [c] = some x) (hb : uptoBulk x.1 ≤ 1048576) :
    ∃ a I cp, c = .slice a I.length cp ∧ I.length ≤ 1048576 ∧ LRow W a I := by
  have c73 : Tryz.prog.cellsOf 73 = 1 := by kernel_rfl
  rcases Go.Deep.open_slice Tryz.underlying35 hf with ⟨hcs, _⟩ | ⟨a, len, cap, m, n, D, Pl, hcs, _, hl, hm, hmm, hx, hi⟩
  · simp at hcs
    exact ⟨none, [], 0, hcs, Nat.zero_le _, fun j m h => by simp at h⟩
  · simp at hcs hmm
    subst hcs
    rw [hx] at hb
    simp only [uptoBulk] at hb
    have hlen : len ≤ 1048576 := by
      have h1 := bulk_len ((List.range len).map D)
      rw [List.length_map, List.length_range] at h1
      omega
    have hD : ∀ i, i < len → uptoBulk (D i) ≤ 1048576 := fun i hi => by
      have h1 := bulk_mem (d := D i) (l := (List.range len).map D) (List.mem_map.2 ⟨i, List.mem_range.2 hi, rfl⟩)
      omega
    obtain ⟨I, hml, hP⟩ := list_of (P := fun i (l : List Int) => ∃ at' ct, W.cell? (a.add i) = some (.slice at' l.length ct) ∧ l.length ≤ 1048576 ∧ IRow W at' l) len (fun i hil => by
      obtain ⟨cs', hc, ht⟩ := hi i (by omega)
      rw [c73, Nat.mul_one] at hc
      obtain ⟨_, hcl, hat⟩ := World.cells?_some hc
      match cs', hcl with
      | [v0], _ =>
        obtain ⟨at', l, ct, rfl, hll, hr⟩ := open_iints ht (hD i hil)
        have a0 := hat 0 (by decide)
        simp only [List.getElem?_cons_zero] at a0
        have e : (a.add i).add 0 = a.add i := by unfold Addr.add; simp
        rw [e] at a0
        exact ⟨l, at', ct, a0, hll, hr⟩)
    refine ⟨some a, I, cap, by rw [hml], by omega, fun j l hj => ?_⟩
    obtain ⟨at', ct, q0, q1, q2⟩ := hP j l hj
    exact ⟨a, at', ct, rfl, q0, by omega, q2⟩
structure AltIn (W : World) (v : Value) (ai : Option Addr) (ci : Nat) (I : List (List Int)) (as' : Option Addr) (cs : Nat) (S : List Sti) : Prop where
  val : v = .agg #[.slice ai I.length ci, .slice as' S.length cs]
  li : I.length ≤ 1048576
  ls : S.length ≤ 1048576
  sets : LRow W ai I
  states : SRow W as' S
  ok : ∀ s ∈ S, ∀ m ∈ s.moves, okM m
  few : ∀ s ∈ S, s.moves.length ≤ 1048576
set_option maxRecDepth 100000 in
theorem open_alt {b0 : Nat} {v : Value} {d : DataW H} {p : List MemPlace} (hv : Value.okWide Tryz.prog W .any b0 38 v) (h : DataW.Trod enc Tryz.prog W 0 (fun _ => true) true 38 v d p) (hb : uptoBulk d ≤ 1048576) :
    ∃ ai ci I as' cs S, AltIn W v ai ci I as' cs S := by
  unfold Value.okWide at hv
  rw [Tryz.underlying38] at hv
  obtain ⟨cs, rfl, hcs, _⟩ := hv
  obtain ⟨fuel, hf⟩ := h
  obtain ⟨y0, y1, n, hx, hl, h0, h1⟩ := trod_struct2 Tryz.underlying38 hf
  have hcs2 : cs.size = 2 := hcs.trans (by kernel_rfl)
  obtain ⟨c0, c1, rfl⟩ : ∃ c0 c1, cs = #[c0, c1] := by
    obtain ⟨l⟩ := cs
    match l, hcs2 with
    | [a, b], _ => exact ⟨a, b, rfl⟩
  have e35 : Tryz.prog.cellsOf 35 = 1 := by kernel_rfl
  have e36 : Tryz.prog.cellsOf 36 = 1 := by kernel_rfl
  simp only [Value.cells] at h0 h1
  simp only [e35, e36, List.drop_zero, List.drop_succ_cons, List.take_succ_cons, List.take_zero] at h0 h1
  have hd : d = .agg [y0.1, y1.1] := congrArg Prod.fst hx
  rw [hd] at hb
  simp only [uptoBulk, uptoBulkAll] at hb
  obtain ⟨ai, I, ci, rfl, hI, hIr⟩ := open_sets h0 (by omega)
  obtain ⟨as', S, cs', rfl, hS, hSr, hok, hfew⟩ := open_states h1 (by omega)
  exact ⟨ai, ci, I, as', cs', S, rfl, hI, hS, hIr, hSr, hok, hfew⟩
end
end Go.Proofs.YtkgfdgfhpdhhaaaGreat
