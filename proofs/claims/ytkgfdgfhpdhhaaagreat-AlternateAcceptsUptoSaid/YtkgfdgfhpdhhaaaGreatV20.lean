/- The reference's rows are reckoned in the world. Conditions: the automaton and the word lie in the world, numbers are of 64 bits. -/
import Derived.Test.YtkgfdgfhpdhhaaaGreatV19
import Derived.Deep.DeepCutAuto
namespace Go.Proofs.YtkgfdgfhpdhhaaaGreat
open Go.ChangeShapes Go.WideShapes Go.RowKit
attribute [local go_sem] Oper.semAt_some
def G2 (a b : Nat) : Nat → Prop := fun q => q = a ∨ q = b
section
variable {w : World} {ai as' ap al : Option Addr} {ci cs cp cl : Nat} {I : List (List Int)} {S : List Sti} {P L : List Int}
set_option maxRecDepth 100000 in
set_option maxHeartbeats 8000000 in
theorem rruns_any (k : SRow w as' S) (hl : P.length + L.length ≤ 4096) (h0 : 0 < L.length) (hP : URow w ap P) (hL : URow w al L) (hU : ∀ x ∈ P ++ L, okU x) (hS : S.length ≤ 4096) (hm : ∀ n, n < S.length → ∀ m ∈ (S.getD n s0).moves, okU m.yes ∧ okU m.no) (hto : ∀ n, n < S.length → stateP (S.getD n s0) n) :
    Calls Tryz.prog 57 #[.agg #[.slice ai I.length ci, .slice as' S.length cs], .agg #[.slice ap P.length cp, .slice al L.length cl]] w fun e w' => Chg Nob w w' ∧ ∃ gr gs, e = .returned (.slice (some ⟨gr, 0, none⟩) S.length S.length) ∧ RowsW w' gr S.length gs (rowsR S (P ++ L) P.length S.length) (P ++ L).length := by
  obtain ⟨X, hX, hcX, hb0, hb1, hsX⟩ : ∃ X, X = (w.alloc (.cells #[.slice ai I.length ci, .slice as' S.length cs] 38)).alloc (.cells #[.slice ap P.length cp, .slice al L.length cl] 28) ∧ Chg Nob w X ∧ X.heap[w.heap.size]? = some (.cells #[.slice ai I.length ci, .slice as' S.length cs] 38 (0, 0)) ∧ X.heap[w.heap.size + 1]? = some (.cells #[.slice ap P.length cp, .slice al L.length cl] 28 (0, 0)) ∧ X.heap.size = w.heap.size + 2 := by
    have h1 := heap_alloc_new (w.alloc (.cells #[.slice ai I.length ci, .slice as' S.length cs] 38)) (.cells #[.slice ap P.length cp, .slice al L.length cl] 28)
    rw [World.size_alloc] at h1
    exact ⟨_, rfl, ((Chg.refl _ _).alloc _).alloc _, ((Chg.refl Nob _).alloc _).at (heap_alloc_new w _) (fun e => e), h1, by rw [World.size_alloc, World.size_alloc]⟩
  obtain ⟨c0, c1, _⟩ := cell_two hb0
  obtain ⟨d0, d1, _⟩ := cell_two hb1
  have HcX := Lib.hid hcX
  have HS := Lib.hid (k.nob hcX)
  have HP := Lib.hid (hP.nob hcX)
  have HL := Lib.hid (hL.nob hcX)
  have HU := Lib.hid hU
  have Hm := Lib.hid hm
  have Hto := Lib.hid hto
  have H0 := Lib.hid h0
  have Hl := Lib.hid hl
  have HB : Hid (∀ W, Chg Nob X W → (W.cell? ⟨w.heap.size, 0, none⟩ = some (.slice ai I.length ci) ∧ W.cell? ⟨w.heap.size, 1, none⟩ = some (.slice as' S.length cs)) ∧ W.cell? ⟨w.heap.size + 1, 0, none⟩ = some (.slice ap P.length cp) ∧ W.cell? ⟨w.heap.size + 1, 1, none⟩ = some (.slice al L.length cl)) := (show ∀ W, Chg Nob X W → (_ ∧ _) ∧ _ ∧ _ from fun W hW => ⟨⟨hW.cell' c0 (fun e => e), hW.cell' c1 (fun e => e)⟩, hW.cell' d0 (fun e => e), hW.cell' d1 (fun e => e)⟩)
  obtain ⟨N, hN⟩ : ∃ N, N = (P ++ L).length := ⟨_, rfl⟩
  have hNl : (P ++ L).length = P.length + L.length := List.length_append
  have hNi : (P.length : Int) + (L.length : Int) = (N : Int) := by omega
  have hN4 : N ≤ 4096 := by omega
  have HNl : Hid (N = P.length + L.length) := (show N = P.length + L.length by omega)
  have HN := Lib.hid hN
  rw [← hN]
  have hmk0 := make66 S.length (by omega) X
  obtain ⟨rcs, hrs, hmk⟩ := hmk0
  obtain ⟨Z, hZ, hcZ, hbZ, hsZ⟩ := box_cells X rcs 34
  have HL0 : Hid (RowsL Z X X.heap.size S.length [] [] N) := (show RowsL Z X _ _ _ _ _ from
    ⟨hcZ, Nat.le_refl _, ⟨rcs, hbZ, hrs, fun k g hk => by simp at hk⟩, rfl, fun k g r hk => by simp at hk⟩)
  rw [hX] at c0 c1 d0 d1
  clear k hP hL hU hm hto h0 hb0 hb1 hcX hsX hl hN hNl hbZ hcZ hsZ hrs
  go_enter Tryz.func57, Tryz.ntmps57
  go_upto_region 1 with fail
  rw [← hX]
  rw [← hX] at c0 c1 d0 d1
  clear hX
  go_upto_region 2 with fail
  go_upto_region 3 with fail
  rw [← hZ]
  clear hZ c0 c1 d0 d1 hmk hNi
  generalize hgr : X.heap.size = gr at *
  clear hgr
  go_wp2_with fail
  go_loopw [7] (fun iv wr => ∃ (n : Nat) (gs : List Nat), iv = .int .i64 (n : Int) ∧ n ≤ S.length ∧ Hid (RowsL wr X gr S.length gs (rowsR S (P ++ L) P.length n) N)) (fun iv _ => S.length - (intOf iv).toNat)
  case atStart => exact ⟨0, [], rfl, Nat.zero_le _, HL0⟩
  case round =>
    obtain ⟨n, gs, rfl, hn, HLn⟩ := hrel
    obtain ⟨⟨c0, c1⟩, d0, d1⟩ := HB.out wr HLn.out.chg
    by_cases hlt : n < S.length
    · obtain ⟨wr0, hwr0⟩ : ∃ W, W = wr := ⟨_, rfl⟩
      subst hwr0
      obtain ⟨s, hs⟩ : ∃ s, S[n]? = some s := ⟨_, List.getElem?_eq_getElem hlt⟩
      have hsd : S.getD n s0 = s := by rw [List.getD_eq_getElem?_getD, hs]; rfl
      have Hsd := Lib.hid hsd
      have HsS := Lib.hid hs
      have hni : (n : Int) < (S.length : Int) := by omega
      have hn0 : (0 : Int) ≤ (n : Int) := by omega
      obtain ⟨R, hR⟩ : ∃ R, R = rowsR S (P ++ L) P.length n := ⟨_, rfl⟩
      have Hrl : Hid (R.length = n) := (show R.length = n by rw [hR, rowsR_length])
      rw [← hR] at HLn
      have HRe := Lib.hid hR
      -- the new row
      have hmkA := make116 N (by omega) wr0
      obtain ⟨Q1, hQ1, hcQ1, hbQ1, hsQ1⟩ := box_cells wr0 (bcells (List.replicate N false)) 4
      have HgrW : Hid (gr < wr0.heap.size ∧ ∀ (k g' : Nat), gs[k]? = some g' → g' < wr0.heap.size) := (show _ ∧ _ by
        obtain ⟨cs', a, _, _⟩ := HLn.out.blk
        refine ⟨(Array.getElem?_eq_some_iff.1 a).1, fun k g' hk => ?_⟩
        have hk2 : k < R.length := by rw [← HLn.out.len]; exact (List.getElem?_eq_some_iff.1 hk).1
        exact (HLn.out.row k g' _ hk (List.getElem?_eq_getElem hk2)).1.lt)
      have hpush := (HLn.out.nob hcQ1).push (l := List.replicate N false) (g := wr0.heap.size) (by rw [Hrl.out]; exact hlt) hbQ1 HgrW.out.1 List.length_replicate
      rw [Hrl.out] at hpush
      obtain ⟨⟨pv, p0⟩, pf, hL4⟩ := hpush
      obtain ⟨V0, hV0⟩ : ∃ V0, V0 = Q1.setCell ⟨gr, n, none⟩ (.slice (some ⟨wr0.heap.size, 0, none⟩) N N) := ⟨_, rfl⟩
      have hV0s : V0.heap.size = wr0.heap.size + 1 := by rw [hV0, World.size_setCell]; exact hsQ1
      rw [← hV0] at hL4
      have hmkB := make116 N (by omega) V0
      obtain ⟨Q2, hQ2, hcQ2, hbQ2, hsQ2⟩ := box_cells V0 (bcells (List.replicate N false)) 4
      have hmkC := make116 N (by omega) Q2
      obtain ⟨Q3, hQ3, hcQ3, hbQ3, hsQ3⟩ := box_cells Q2 (bcells (List.replicate N false)) 4
      have HL5 : Hid (RowsL Q3 X gr S.length (gs ++ [wr0.heap.size]) (R ++ [List.replicate N false]) N) := Lib.hid ((hL4.nob hcQ2).nob hcQ3)
      have HbA : Hid (BBlk Q3 V0.heap.size (List.replicate N false)) := (show BBlk Q3 V0.heap.size _ from hcQ3.at hbQ2 (fun e => e))
      have HbB : Hid (BBlk Q3 Q2.heap.size (List.replicate N false)) := hbQ3
      have Hsz : Hid (V0.heap.size = wr0.heap.size + 1 ∧ Q2.heap.size = V0.heap.size + 1) := Lib.hid ⟨hV0s, hsQ2⟩
      clear hL4 hbQ1 hbQ2 hbQ3 hcQ1 hcQ2 hcQ3 hsQ1 hsQ2 hsQ3 hV0s hR hs hsd
      go_upto_region 6 with fail
      rw [hQ1] at p0 pf hV0
      go_upto_region 7 with fail
      rw [← hV0]
      clear hV0 p0 pf hmkA hQ1 Q1
      go_upto_region 8 with fail
      rw [← hQ2]
      clear hQ2 hmkB
      go_upto_region 9 with fail
      rw [← hQ3]
      clear hQ3 hmkC c0 c1 d0 d1
      go_wp2_with fail
      generalize hgl : V0.heap.size = gl at *
      generalize hgst : Q2.heap.size = gst at *
      generalize hg : wr0.heap.size = g at *
      clear hgl hgst hg V0 Q2
      have Hov : Hid (∀ V, Chg (G2 gl gst) Q3 V → RowsL V X gr S.length (gs ++ [g]) (R ++ [List.replicate N false]) N) := (show ∀ V, Chg (G2 gl gst) Q3 V → RowsL V X gr S.length (gs ++ [g]) (R ++ [List.replicate N false]) N from fun V hV =>
        HL5.out.over (lim := gl) hV (fun q hq => by rcases hq with e | e <;> (have := Hsz.out; omega)) (by have := HgrW.out.1; have := Hsz.out; omega) (fun k g' hk => by
          by_cases hkl : k < gs.length
          · rw [List.getElem?_append_left hkl] at hk
            have := HgrW.out.2 k g' hk
            have := Hsz.out
            omega
          · rw [List.getElem?_append_right (by omega)] at hk
            have h2 := List.mem_singleton.1 (List.mem_of_getElem? hk)
            have := Hsz.out
            omega))
      have Hp : Hid (∀ (V : World) (i : Nat) (own : Bool), i < N → Chg (G2 gl gst) Q3 V → Calls Tryz.prog 92 #[.agg #[.slice ai I.length ci, .slice as' S.length cs], .agg #[.slice ap P.length cp, .slice al L.length cl], .slice (some ⟨gr, 0, none⟩) S.length S.length, .int .i64 (n : Int), .int .i64 (i : Int), .bool own] V fun e w' => e = .returned (.bool (stepB R s.moves (P ++ L) P.length n i own)) ∧ Chg Nob V w') :=
        (show ∀ (V : World) (i : Nat) (own : Bool), i < N → Chg (G2 gl gst) Q3 V → Calls Tryz.prog 92 #[.agg #[.slice ai I.length ci, .slice as' S.length cs], .agg #[.slice ap P.length cp, .slice al L.length cl], .slice (some ⟨gr, 0, none⟩) S.length S.length, .int .i64 (n : Int), .int .i64 (i : Int), .bool own] V fun e w' => e = .returned (.bool (stepB R s.moves (P ++ L) P.length n i own)) ∧ Chg Nob V w' from fun V i own hi hV => by
          have hr := Hov.out V hV
          have hx := hr.chg
          have hh := rstep_any (I := I) (ai := ai) (ci := ci) (cs := cs) (cp := cp) (cl := cl) (gr := gr) (ns := S.length) (gs := gs) (R := R) (HS.out.nob hx) Hl.out H0.out (HP.out.nob hx) (HL.out.nob hx) HU.out n hlt (by omega) (by omega) (Hm.out n hlt) (Hto.out n hlt) (by rw [← HN.out]; exact hr.init.rows (by rw [Hrl.out]; omega)) Hrl.out i (by have := HNl.out; omega) own
          rw [Hsd.out] at hh
          exact hh)
      have HgX : Hid (∀ V, Chg (G2 gl gst) Q3 V → Chg Nob X V) := (show ∀ V, Chg (G2 gl gst) Q3 V → Chg Nob X V from fun V hV => (Hov.out V hV).chg)
      go_loopw [10] (fun iv wr => ∃ (i : Nat) (A B : List Bool), iv = .int .i64 (i : Int) ∧ i ≤ N ∧ Hid (A.length = N ∧ ∀ q, q < i → A[q]? = some (stepB R s.moves (P ++ L) P.length n q false)) ∧ Hid (B.length = N ∧ ∀ q, q < i → B[q]? = some (stepB R s.moves (P ++ L) P.length n q true)) ∧ Hid (BBlk wr gl A) ∧ Hid (BBlk wr gst B) ∧ Hid (Chg (G2 gl gst) Q3 wr)) (fun iv _ => N - (intOf iv).toNat)
      case atStart => exact ⟨0, _, _, rfl, Nat.zero_le _, (show _ ∧ _ from ⟨List.length_replicate, fun q hq => absurd hq (Nat.not_lt_zero q)⟩), (show _ ∧ _ from ⟨List.length_replicate, fun q hq => absurd hq (Nat.not_lt_zero q)⟩), HbA, HbB, Chg.refl _ _⟩
      case round =>
        obtain ⟨i, A, B, rfl, hi, HA, HBl, HbA1, HbB1, Hc⟩ := hrel
        obtain ⟨⟨c0, c1⟩, d0, d1⟩ := HB.out wr (HgX.out _ Hc.out)
        by_cases hil : i < N
        · have hii : (i : Int) < (N : Int) := by omega
          have hi0 : (0 : Int) ≤ (i : Int) := by omega
          have hp := Hp.out wr i false hil Hc.out
          go_wp2_with fail
          (with_reducible refine hp.mono ?_)
          clear hp c0 c1 d0 d1
          rintro e v1 ⟨rfl, hc1⟩
          obtain ⟨xa, hxa⟩ : ∃ xa, xa = stepB R s.moves (P ++ L) P.length n i false := ⟨_, rfl⟩
          rw [← hxa]
          have Hc1 : Hid (Chg (G2 gl gst) Q3 (v1.setCell ⟨gl, i, none⟩ (.bool xa))) := (show Chg (G2 gl gst) Q3 _ from (Hc.out.trans hc1 (fun _ _ e => e.elim)).setCell (p := ⟨gl, i, none⟩) (fun _ => Or.inl rfl) _)
          have hset1 : Chg (At1 gl) v1 (v1.setCell ⟨gl, i, none⟩ (.bool xa)) := (Chg.refl (At1 gl) v1).setCell (p := ⟨gl, i, none⟩) (fun _ => rfl) _
          have hbA2 := HbA1.out.chg hc1 (fun e => e)
          have e0 := hbA2.cell (j := i) (x := A.getD i false) (getDb_some (by have := HA.out.1; omega))
          have f0 := hbA2.free i
          have HbA3 := Lib.hid (hbA2.set i xa)
          have HbB3 := Lib.hid ((HbB1.out.chg hc1 (fun e => e)).chg hset1 (fun e => by have e : gst = gl := e; have := Hsz.out; omega))
          have HA2 := Lib.hid (set_list HA.out.1 HA.out.2 hil xa hxa)
          obtain ⟨V1, hV1⟩ : ∃ V1, V1 = v1.setCell ⟨gl, i, none⟩ (.bool xa) := ⟨_, rfl⟩
          rw [← hV1] at Hc1 HbA3 HbB3
          clear hset1 hbA2 hc1 hxa
          go_upto_region 13 with fail
          rw [← hV1]
          clear hV1 e0 f0
          obtain ⟨⟨c0, c1⟩, d0, d1⟩ := HB.out V1 (HgX.out _ Hc1.out)
          have hp := Hp.out V1 i true hil Hc1.out
          go_wp2_with fail
          (with_reducible refine hp.mono ?_)
          clear hp c0 c1 d0 d1
          rintro e v2 ⟨rfl, hc2⟩
          obtain ⟨xb, hxb⟩ : ∃ xb, xb = stepB R s.moves (P ++ L) P.length n i true := ⟨_, rfl⟩
          rw [← hxb]
          have Hc2 : Hid (Chg (G2 gl gst) Q3 (v2.setCell ⟨gst, i, none⟩ (.bool xb))) := (show Chg (G2 gl gst) Q3 _ from (Hc1.out.trans hc2 (fun _ _ e => e.elim)).setCell (p := ⟨gst, i, none⟩) (fun _ => Or.inr rfl) _)
          have hset2 : Chg (At1 gst) v2 (v2.setCell ⟨gst, i, none⟩ (.bool xb)) := (Chg.refl (At1 gst) v2).setCell (p := ⟨gst, i, none⟩) (fun _ => rfl) _
          have hbB2 := HbB3.out.chg hc2 (fun e => e)
          have e0 := hbB2.cell (j := i) (x := B.getD i false) (getDb_some (by have := HBl.out.1; omega))
          have f0 := hbB2.free i
          have HbB4 := Lib.hid (hbB2.set i xb)
          have HbA4 := Lib.hid ((HbA3.out.chg hc2 (fun e => e)).chg hset2 (fun e => by have e : gl = gst := e; have := Hsz.out; omega))
          have HB2 := Lib.hid (set_list HBl.out.1 HBl.out.2 hil xb hxb)
          clear hset2 hbB2 hc2 hxb
          go_wp2_with fail
          go_roundw
          case rel => exact ⟨i + 1, _, _, by go_num, by omega, HA2, HB2, HbA4, HbB4, Hc2⟩
          case measure => simp [intOf]; omega
        · have hie : i = N := by omega
          rw [hie] at HA HBl
          have hii : ¬ (i : Int) < (N : Int) := by omega
          have hiid : decide ((i : Int) < (N : Int)) = false := decide_eq_false hii
          have hiin : decide (i < N) = false := decide_eq_false hil
          have hAe : A = leavesR R s.moves (P ++ L) P.length n false := by
            unfold leavesR
            rw [← HN.out]
            exact range_list HA.out.1 HA.out.2
          have hBe : B = leavesR R s.moves (P ++ L) P.length n true := by
            unfold leavesR
            rw [← HN.out]
            exact range_list HBl.out.1 HBl.out.2
          have HAe := Lib.hid hAe
          have HBe := Lib.hid hBe
          have HAl : Hid (A.length = N ∧ B.length = N) := Lib.hid ⟨HA.out.1, HBl.out.1⟩
          have HL6 := Lib.hid (Hov.out wr Hc.out)
          clear hAe hBe hie HA HBl Hp Hov HgX HL5 HbA HbB Hc c0 c1 d0 d1
          go_wp2_with fail
          clear hii hiid hiin hil
          clear hi
          go_loopw [11] (fun iv wr => ∃ (i : Nat) (l : List Bool), iv = .int .i64 (i : Int) ∧ i ≤ N ∧ Hid (l.length = N ∧ ∀ q, q < i → l[q]? = some (walkR A B (!s.fin) P.length N (N + 1) q)) ∧ Hid (RowsL wr X gr S.length (gs ++ [g]) (R ++ [l]) N) ∧ Hid (BBlk wr gl A) ∧ Hid (BBlk wr gst B)) (fun iv _ => N - (intOf iv).toNat)
          case atStart => exact ⟨0, _, rfl, Nat.zero_le _, (show _ ∧ _ from ⟨List.length_replicate, fun q hq => absurd hq (Nat.not_lt_zero q)⟩), HL6, HbA1, HbB1⟩
          case round =>
            obtain ⟨i, l, rfl, hi, Hl3, HLr, HbA2, HbB2⟩ := hrel
            by_cases hil : i < N
            · have hii : (i : Int) < (N : Int) := by omega
              have hi0 : (0 : Int) ≤ (i : Int) := by omega
              obtain ⟨wr1, hwr1⟩ : ∃ W, W = wr := ⟨_, rfl⟩
              subst hwr1
              go_wp2_with fail
              go_loopw [12, 13] (fun pv kv W => ∃ p k : Nat, pv = .int .i64 (p : Int) ∧ kv = .int .i64 (k : Int) ∧ p < N ∧ k ≤ N + 1 ∧ Hid (walkR A B (!s.fin) P.length N (N + 1 - k) p = walkR A B (!s.fin) P.length N (N + 1) i) ∧ Hid (Chg Nob wr1 W)) (fun _ kv _ => N + 1 - (intOf kv).toNat)
              case atStart => exact ⟨i, 0, rfl, rfl, hil, by omega, (show _ = _ from rfl), Chg.refl _ _⟩
              case round =>
                obtain ⟨p, k, rfl, rfl, hp, hk, Hw, Hc4⟩ := hrel
                have hpi : (p : Int) < (N : Int) := by omega
                have hp0 : (0 : Int) ≤ (p : Int) := by omega
                have HL7 := Lib.hid (HLr.out.nob Hc4.out)
                have hbA3 := HbA2.out.chg Hc4.out (fun e => e)
                have hbB3 := HbB2.out.chg Hc4.out (fun e => e)
                have Hne : Hid (gl ≠ g ∧ gst ≠ g) := (show _ ∧ _ by have := Hsz.out; omega)
                obtain ⟨ya, hya⟩ : ∃ ya, ya = A.getD p false := ⟨_, rfl⟩
                obtain ⟨yb, hyb⟩ : ∃ yb, yb = B.getD p false := ⟨_, rfl⟩
                have ea : wr.cell? ⟨gl, p, none⟩ = some (.bool ya) := hbA3.cell (by rw [hya]; exact getDb_some (by have := HAl.out.1; omega))
                have eb : wr.cell? ⟨gst, p, none⟩ = some (.bool yb) := hbB3.cell (by rw [hyb]; exact getDb_some (by have := HAl.out.2; omega))
                have Hya := Lib.hid hya
                have Hyb := Lib.hid hyb
                obtain ⟨⟨c0, c1⟩, d0, d1⟩ := HB.out wr HL7.out.chg
                have hlast := HL7.out.last
                rw [Hrl.out] at hlast
                obtain ⟨g0, _, _⟩ := hlast
                obtain ⟨b', o', am', cm', hsa, hfc, _⟩ := (HS.out.nob HL7.out.chg) n s HsS.out
                subst hsa
                have HSx : Hid (∀ w', Chg Nob wr w' → w'.cell? ⟨w.heap.size, 1, none⟩ = some (.slice (some ⟨b', o', none⟩) S.length cs) ∧ w'.cell? ⟨gr, n, none⟩ = some (.slice (some ⟨g, 0, none⟩) N N) ∧ w'.cell? ⟨gl, p, none⟩ = some (.bool ya) ∧ w'.cell? ⟨b', o' + n * 2, none⟩ = some (.bool s.fin)) := (show ∀ w', Chg Nob wr w' → w'.cell? ⟨w.heap.size, 1, none⟩ = some (.slice (some ⟨b', o', none⟩) S.length cs) ∧ w'.cell? ⟨gr, n, none⟩ = some (.slice (some ⟨g, 0, none⟩) N N) ∧ w'.cell? ⟨gl, p, none⟩ = some (.bool ya) ∧ w'.cell? ⟨b', o' + n * 2, none⟩ = some (.bool s.fin) from fun w' h => ⟨h.cell' c1 (fun e => e), h.cell' g0 (fun e => e), h.cell' ea (fun e => e), h.cell' hfc (fun e => e)⟩)
                clear hbA3 hbB3 hya hyb
                by_cases hkN : k ≤ N
                · have hki : (k : Int) ≤ (N : Int) := by omega
                  have hkg : ¬ (N : Int) < (k : Int) := by omega
                  have hkgd : decide ((N : Int) < (k : Int)) = false := decide_eq_false hkg
                  have hkgn : decide (N < k) = false := decide_eq_false (by omega)
                  have hfu : N + 1 - k = (N - k) + 1 := by omega
                  have Hw2 : Hid ((if !ya && yb then walkR A B (!s.fin) P.length N (N - k) (nextN P.length N p) else ya) = walkR A B (!s.fin) P.length N (N + 1) i) := (show _ = _ by
                    have h1 := Hw.out
                    rw [hfu, walkR, ← Hya.out, ← Hyb.out] at h1
                    exact h1)
                  clear hfu Hw
                  cases ya with
                  | true =>
                    have Hx : Hid (true = walkR A B (!s.fin) P.length N (N + 1) i) := (show true = _ from Hw2.out)
                    have hlast2 := (HL7.out.nob ((Chg.refl Nob wr).drew)).last
                    have Hk0 : Hid (wr.drew.cell? ⟨g, i, none⟩ = some (.bool (l.getD i false)) ∧ wr.drew.frozen? ⟨g, i, none⟩ = false) := (show _ ∧ _ from ⟨hlast2.2.1.cell (j := i) (x := l.getD i false) (getDb_some (by rw [hlast2.2.2]; exact hil)), hlast2.2.1.free i⟩)
                    have Hset : Hid (Chg (At1 g) wr.drew (wr.drew.setCell ⟨g, i, none⟩ (.bool true))) := (show Chg (At1 g) wr.drew _ from (Chg.refl (At1 g) wr.drew).setCell (p := ⟨g, i, none⟩) (fun _ => rfl) _)
                    have HLw := Lib.hid ((HL7.out.nob ((Chg.refl Nob wr).drew)).put (fun k g' hk => Nat.ne_of_lt (HgrW.out.2 k g' hk)) i true)
                    have HAw := Lib.hid (((HbA2.out.chg Hc4.out (fun e => e)).chg ((Chg.refl Nob wr).drew) (fun e => e)).chg Hset.out (fun e => Hne.out.1 e))
                    have HBw2 := Lib.hid (((HbB2.out.chg Hc4.out (fun e => e)).chg ((Chg.refl Nob wr).drew) (fun e => e)).chg Hset.out (fun e => Hne.out.2 e))
                    clear hlast2
                    go_wp2_with fail
                    refine wp_region_free (fun i => i != 24) (fun w' => w'.cell? ⟨w.heap.size, 1, none⟩ = some (.slice (some ⟨b', o', none⟩) S.length cs) ∧ w'.cell? ⟨gr, n, none⟩ = some (.slice (some ⟨g, 0, none⟩) N N) ∧ w'.cell? ⟨gl, p, none⟩ = some (.bool true) ∧ w'.cell? ⟨b', o' + n * 2, none⟩ = some (.bool s.fin)) (by kernel_rfl) ⟨c1, g0, ea, hfc⟩ (fun hHeld => ?_)
                    refine wpAnyG_take (i := 0) (v := ?_) rfl (by kernel_rfl) (fun _ _ _ h => h) (Or.inl ⟨by rfl, ?_⟩) hHeld ?_
                    rotate_left
                    · intro w hSw; obtain ⟨c1, g0, ea, hfc⟩ := hSw; go_simp; (try (with_reducible rfl))
                    simp only [Act.put, List.setIfInBounds_toArray]
                    refine wpAnyG_take (i := 1) (v := ?_) rfl (by kernel_rfl) (fun _ _ _ h => h) (Or.inl ⟨by rfl, ?_⟩) hHeld ?_
                    rotate_left
                    · intro w hSw; obtain ⟨c1, g0, ea, hfc⟩ := hSw; go_simp; (try (with_reducible rfl))
                    try simp only [Act.put]
                    refine wpAnyG_take (i := 2) (v := ?_) rfl (by kernel_rfl) (fun _ _ _ h => h) (Or.inl ⟨by rfl, ?_⟩) hHeld ?_
                    rotate_left
                    · intro w hSw; obtain ⟨c1, g0, ea, hfc⟩ := hSw; go_simp; (try (with_reducible rfl))
                    try simp only [Act.put]
                    refine wpAnyG_take (i := 3) (v := ?_) rfl (by kernel_rfl) (fun _ _ _ h => h) (Or.inl ⟨by rfl, ?_⟩) hHeld ?_
                    rotate_left
                    · intro w hSw; obtain ⟨c1, g0, ea, hfc⟩ := hSw; go_simp; (try (with_reducible rfl))
                    try simp only [Act.put]
                    refine wpAnyG_take (i := 4) (v := ?_) rfl (by kernel_rfl) (fun _ _ _ h => h) (Or.inl ⟨by kernel_rfl, ?_⟩) hHeld ?_
                    rotate_left
                    · intro w hSw; obtain ⟨c1, g0, ea, hfc⟩ := hSw; go_simp; (try (with_reducible rfl))
                    try simp only [Act.put]
                    refine wpAnyG_take (i := 5) (v := ?_) rfl (by kernel_rfl) (fun _ _ _ h => h) (Or.inl ⟨by kernel_rfl, ?_⟩) hHeld ?_
                    rotate_left
                    · intro w hSw; obtain ⟨c1, g0, ea, hfc⟩ := hSw; go_simp; (try (with_reducible rfl))
                    try simp only [Act.put]
                    refine wpAnyG_take (i := 6) (v := ?_) rfl (by kernel_rfl) (fun _ _ _ h => h) (Or.inl ⟨by kernel_rfl, ?_⟩) hHeld ?_
                    rotate_left
                    · intro w hSw; obtain ⟨c1, g0, ea, hfc⟩ := hSw; go_simp; (try (with_reducible rfl))
                    try simp only [Act.put]
                    refine wpAnyG_take (i := 7) (v := ?_) rfl (by kernel_rfl) (fun _ _ _ h => h) (Or.inl ⟨by kernel_rfl, ?_⟩) hHeld ?_
                    rotate_left
                    · intro w hSw; obtain ⟨c1, g0, ea, hfc⟩ := hSw; go_simp; (try (with_reducible rfl))
                    try simp only [Act.put]
                    refine wpAnyG_take (i := 8) (v := ?_) rfl (by kernel_rfl) (fun _ _ _ h => h) (Or.inl ⟨by kernel_rfl, ?_⟩) hHeld ?_
                    rotate_left
                    · intro w hSw; obtain ⟨c1, g0, ea, hfc⟩ := hSw; go_simp; (try (with_reducible rfl))
                    try simp only [Act.put]
                    refine wpAnyG_take (i := 9) (v := ?_) rfl (by kernel_rfl) (fun _ _ _ h => h) (Or.inl ⟨by kernel_rfl, ?_⟩) hHeld ?_
                    rotate_left
                    · intro w hSw; obtain ⟨c1, g0, ea, hfc⟩ := hSw; go_simp; (try (with_reducible rfl))
                    try simp only [Act.put]
                    refine wpAnyG_take (i := 10) (v := undef) rfl (by kernel_rfl) (fun _ _ _ h => h) (Or.inr ⟨by kernel_rfl, rfl⟩) hHeld ?_
                    try simp only [Act.put]
                    refine wpAnyG_take (i := 11) (v := undef) rfl (by kernel_rfl) (fun _ _ _ h => h) (Or.inr ⟨by kernel_rfl, rfl⟩) hHeld ?_
                    try simp only [Act.put]
                    refine wpAnyG_take (i := 12) (v := undef) rfl (by kernel_rfl) (fun _ _ _ h => h) (Or.inr ⟨by kernel_rfl, rfl⟩) hHeld ?_
                    try simp only [Act.put]
                    refine wpAnyG_take (i := 13) (v := undef) rfl (by kernel_rfl) (fun _ _ _ h => h) (Or.inr ⟨by kernel_rfl, rfl⟩) hHeld ?_
                    try simp only [Act.put]
                    refine wpAnyG_take (i := 14) (v := undef) rfl (by kernel_rfl) (fun _ _ _ h => h) (Or.inr ⟨by kernel_rfl, rfl⟩) hHeld ?_
                    try simp only [Act.put]
                    refine wpAnyG_take (i := 15) (v := undef) rfl (by kernel_rfl) (fun _ _ _ h => h) (Or.inr ⟨by kernel_rfl, rfl⟩) hHeld ?_
                    try simp only [Act.put]
                    refine wpAnyG_take (i := 16) (v := undef) rfl (by kernel_rfl) (fun _ _ _ h => h) (Or.inr ⟨by kernel_rfl, rfl⟩) hHeld ?_
                    try simp only [Act.put]
                    refine wpAnyG_take (i := 17) (v := undef) rfl (by kernel_rfl) (fun _ _ _ h => h) (Or.inr ⟨by kernel_rfl, rfl⟩) hHeld ?_
                    try simp only [Act.put]
                    refine wpAnyG_take (i := 18) (v := undef) rfl (by kernel_rfl) (fun _ _ _ h => h) (Or.inr ⟨by kernel_rfl, rfl⟩) hHeld ?_
                    try simp only [Act.put]
                    refine wpAnyG_take (i := 19) (v := undef) rfl (by kernel_rfl) (fun _ _ _ h => h) (Or.inr ⟨by kernel_rfl, rfl⟩) hHeld ?_
                    try simp only [Act.put]
                    refine wpAnyG_take (i := 20) (v := undef) rfl (by kernel_rfl) (fun _ _ _ h => h) (Or.inr ⟨by kernel_rfl, rfl⟩) hHeld ?_
                    try simp only [Act.put]
                    refine wpAnyG_take (i := 21) (v := undef) rfl (by kernel_rfl) (fun _ _ _ h => h) (Or.inr ⟨by kernel_rfl, rfl⟩) hHeld ?_
                    try simp only [Act.put]
                    refine wpAnyG_take (i := 22) (v := ?_) rfl (by kernel_rfl) (fun _ _ _ h => h) (Or.inl ⟨by kernel_rfl, ?_⟩) hHeld ?_
                    rotate_left
                    · intro w hSw; obtain ⟨c1, g0, ea, hfc⟩ := hSw; go_simp; (try (with_reducible rfl))
                    try simp only [Act.put]
                    refine wpAnyG_take (i := 23) (v := ?_) rfl (by kernel_rfl) (fun _ _ _ h => h) (Or.inl ⟨by kernel_rfl, ?_⟩) hHeld ?_
                    rotate_left
                    · intro w hSw; obtain ⟨c1, g0, ea, hfc⟩ := hSw; go_simp; (try (with_reducible rfl))
                    try simp only [Act.put]
                    refine wpAnyG_ready (rs := [24]) (by kernel_rfl) (by simp) ?_
                    refine AllReadyG.cons rfl (fun K hK => ?_) AllReadyG.nil
                    rw [if_pos (by kernel_rfl)]
                    have k0 := Hk0.out.1
                    have kf := Hk0.out.2
                    go_simp
                    refine hK.out _ _ (fun h => absurd h (by decide)) ?_
                    clear hK K
                    try simp only [Act.put]
                    refine wpAnyG_done (by kernel_rfl) ?_ _
                    go_simp
                    clear hHeld k0 kf
                    go_wp2_with fail
                    go_roundw
                    case rel => exact ⟨i + 1, _, by go_num, by omega, Lib.hid (set_list Hl3.out.1 Hl3.out.2 hil _ Hx.out), HLw, HAw, HBw2⟩
                    case measure => simp [intOf]; omega
                  | false =>
                    cases yb with
                    | false =>
                      have Hx : Hid (false = walkR A B (!s.fin) P.length N (N + 1) i) := (show false = _ from Hw2.out)
                      have hlast2 := (HL7.out.nob ((Chg.refl Nob wr).drew)).last
                      have Hk0 : Hid (wr.drew.cell? ⟨g, i, none⟩ = some (.bool (l.getD i false)) ∧ wr.drew.frozen? ⟨g, i, none⟩ = false) := (show _ ∧ _ from ⟨hlast2.2.1.cell (j := i) (x := l.getD i false) (getDb_some (by rw [hlast2.2.2]; exact hil)), hlast2.2.1.free i⟩)
                      have Hset : Hid (Chg (At1 g) wr.drew (wr.drew.setCell ⟨g, i, none⟩ (.bool false))) := (show Chg (At1 g) wr.drew _ from (Chg.refl (At1 g) wr.drew).setCell (p := ⟨g, i, none⟩) (fun _ => rfl) _)
                      have HLw := Lib.hid ((HL7.out.nob ((Chg.refl Nob wr).drew)).put (fun k g' hk => Nat.ne_of_lt (HgrW.out.2 k g' hk)) i false)
                      have HAw := Lib.hid (((HbA2.out.chg Hc4.out (fun e => e)).chg ((Chg.refl Nob wr).drew) (fun e => e)).chg Hset.out (fun e => Hne.out.1 e))
                      have HBw2 := Lib.hid (((HbB2.out.chg Hc4.out (fun e => e)).chg ((Chg.refl Nob wr).drew) (fun e => e)).chg Hset.out (fun e => Hne.out.2 e))
                      clear hlast2
                      go_wp2_with fail
                      refine wp_region_free (fun i => i != 24) (fun w' => w'.cell? ⟨w.heap.size, 1, none⟩ = some (.slice (some ⟨b', o', none⟩) S.length cs) ∧ w'.cell? ⟨gr, n, none⟩ = some (.slice (some ⟨g, 0, none⟩) N N) ∧ w'.cell? ⟨gl, p, none⟩ = some (.bool false) ∧ w'.cell? ⟨b', o' + n * 2, none⟩ = some (.bool s.fin)) (by kernel_rfl) ⟨c1, g0, ea, hfc⟩ (fun hHeld => ?_)
                      refine wpAnyG_take (i := 0) (v := ?_) rfl (by kernel_rfl) (fun _ _ _ h => h) (Or.inl ⟨by rfl, ?_⟩) hHeld ?_
                      rotate_left
                      · intro w hSw; obtain ⟨c1, g0, ea, hfc⟩ := hSw; go_simp; (try (with_reducible rfl))
                      simp only [Act.put, List.setIfInBounds_toArray]
                      refine wpAnyG_take (i := 1) (v := ?_) rfl (by kernel_rfl) (fun _ _ _ h => h) (Or.inl ⟨by rfl, ?_⟩) hHeld ?_
                      rotate_left
                      · intro w hSw; obtain ⟨c1, g0, ea, hfc⟩ := hSw; go_simp; (try (with_reducible rfl))
                      try simp only [Act.put]
                      refine wpAnyG_take (i := 2) (v := ?_) rfl (by kernel_rfl) (fun _ _ _ h => h) (Or.inl ⟨by rfl, ?_⟩) hHeld ?_
                      rotate_left
                      · intro w hSw; obtain ⟨c1, g0, ea, hfc⟩ := hSw; go_simp; (try (with_reducible rfl))
                      try simp only [Act.put]
                      refine wpAnyG_take (i := 3) (v := ?_) rfl (by kernel_rfl) (fun _ _ _ h => h) (Or.inl ⟨by rfl, ?_⟩) hHeld ?_
                      rotate_left
                      · intro w hSw; obtain ⟨c1, g0, ea, hfc⟩ := hSw; go_simp; (try (with_reducible rfl))
                      try simp only [Act.put]
                      refine wpAnyG_take (i := 4) (v := ?_) rfl (by kernel_rfl) (fun _ _ _ h => h) (Or.inl ⟨by kernel_rfl, ?_⟩) hHeld ?_
                      rotate_left
                      · intro w hSw; obtain ⟨c1, g0, ea, hfc⟩ := hSw; go_simp; (try (with_reducible rfl))
                      try simp only [Act.put]
                      refine wpAnyG_take (i := 5) (v := ?_) rfl (by kernel_rfl) (fun _ _ _ h => h) (Or.inl ⟨by kernel_rfl, ?_⟩) hHeld ?_
                      rotate_left
                      · intro w hSw; obtain ⟨c1, g0, ea, hfc⟩ := hSw; go_simp; (try (with_reducible rfl))
                      try simp only [Act.put]
                      refine wpAnyG_take (i := 6) (v := ?_) rfl (by kernel_rfl) (fun _ _ _ h => h) (Or.inl ⟨by kernel_rfl, ?_⟩) hHeld ?_
                      rotate_left
                      · intro w hSw; obtain ⟨c1, g0, ea, hfc⟩ := hSw; go_simp; (try (with_reducible rfl))
                      try simp only [Act.put]
                      refine wpAnyG_take (i := 7) (v := ?_) rfl (by kernel_rfl) (fun _ _ _ h => h) (Or.inl ⟨by kernel_rfl, ?_⟩) hHeld ?_
                      rotate_left
                      · intro w hSw; obtain ⟨c1, g0, ea, hfc⟩ := hSw; go_simp; (try (with_reducible rfl))
                      try simp only [Act.put]
                      refine wpAnyG_take (i := 8) (v := ?_) rfl (by kernel_rfl) (fun _ _ _ h => h) (Or.inl ⟨by kernel_rfl, ?_⟩) hHeld ?_
                      rotate_left
                      · intro w hSw; obtain ⟨c1, g0, ea, hfc⟩ := hSw; go_simp; (try (with_reducible rfl))
                      try simp only [Act.put]
                      refine wpAnyG_take (i := 9) (v := ?_) rfl (by kernel_rfl) (fun _ _ _ h => h) (Or.inl ⟨by kernel_rfl, ?_⟩) hHeld ?_
                      rotate_left
                      · intro w hSw; obtain ⟨c1, g0, ea, hfc⟩ := hSw; go_simp; (try (with_reducible rfl))
                      try simp only [Act.put]
                      refine wpAnyG_take (i := 10) (v := ?_) rfl (by kernel_rfl) (fun _ _ _ h => h) (Or.inl ⟨by kernel_rfl, ?_⟩) hHeld ?_
                      rotate_left
                      · intro w hSw; obtain ⟨c1, g0, ea, hfc⟩ := hSw; go_simp; (try (with_reducible rfl))
                      try simp only [Act.put]
                      refine wpAnyG_take (i := 11) (v := ?_) rfl (by kernel_rfl) (fun _ _ _ h => h) (Or.inl ⟨by kernel_rfl, ?_⟩) hHeld ?_
                      rotate_left
                      · intro w hSw; obtain ⟨c1, g0, ea, hfc⟩ := hSw; go_simp; (try (with_reducible rfl))
                      try simp only [Act.put]
                      refine wpAnyG_take (i := 12) (v := ?_) rfl (by kernel_rfl) (fun _ _ _ h => h) (Or.inl ⟨by kernel_rfl, ?_⟩) hHeld ?_
                      rotate_left
                      · intro w hSw; obtain ⟨c1, g0, ea, hfc⟩ := hSw; go_simp; (try (with_reducible rfl))
                      try simp only [Act.put]
                      refine wpAnyG_take (i := 13) (v := ?_) rfl (by kernel_rfl) (fun _ _ _ h => h) (Or.inl ⟨by kernel_rfl, ?_⟩) hHeld ?_
                      rotate_left
                      · intro w hSw; obtain ⟨c1, g0, ea, hfc⟩ := hSw; go_simp; (try (with_reducible rfl))
                      try simp only [Act.put]
                      refine wpAnyG_take (i := 14) (v := undef) rfl (by kernel_rfl) (fun _ _ _ h => h) (Or.inr ⟨by kernel_rfl, rfl⟩) hHeld ?_
                      try simp only [Act.put]
                      refine wpAnyG_take (i := 15) (v := undef) rfl (by kernel_rfl) (fun _ _ _ h => h) (Or.inr ⟨by kernel_rfl, rfl⟩) hHeld ?_
                      try simp only [Act.put]
                      refine wpAnyG_take (i := 16) (v := undef) rfl (by kernel_rfl) (fun _ _ _ h => h) (Or.inr ⟨by kernel_rfl, rfl⟩) hHeld ?_
                      try simp only [Act.put]
                      refine wpAnyG_take (i := 17) (v := undef) rfl (by kernel_rfl) (fun _ _ _ h => h) (Or.inr ⟨by kernel_rfl, rfl⟩) hHeld ?_
                      try simp only [Act.put]
                      refine wpAnyG_take (i := 18) (v := undef) rfl (by kernel_rfl) (fun _ _ _ h => h) (Or.inr ⟨by kernel_rfl, rfl⟩) hHeld ?_
                      try simp only [Act.put]
                      refine wpAnyG_take (i := 19) (v := undef) rfl (by kernel_rfl) (fun _ _ _ h => h) (Or.inr ⟨by kernel_rfl, rfl⟩) hHeld ?_
                      try simp only [Act.put]
                      refine wpAnyG_take (i := 20) (v := undef) rfl (by kernel_rfl) (fun _ _ _ h => h) (Or.inr ⟨by kernel_rfl, rfl⟩) hHeld ?_
                      try simp only [Act.put]
                      refine wpAnyG_take (i := 21) (v := ?_) rfl (by kernel_rfl) (fun _ _ _ h => h) (Or.inl ⟨by kernel_rfl, ?_⟩) hHeld ?_
                      rotate_left
                      · intro w hSw; obtain ⟨c1, g0, ea, hfc⟩ := hSw; go_simp; (try (with_reducible rfl))
                      try simp only [Act.put]
                      refine wpAnyG_take (i := 22) (v := ?_) rfl (by kernel_rfl) (fun _ _ _ h => h) (Or.inl ⟨by kernel_rfl, ?_⟩) hHeld ?_
                      rotate_left
                      · intro w hSw; obtain ⟨c1, g0, ea, hfc⟩ := hSw; go_simp; (try (with_reducible rfl))
                      try simp only [Act.put]
                      refine wpAnyG_take (i := 23) (v := ?_) rfl (by kernel_rfl) (fun _ _ _ h => h) (Or.inl ⟨by kernel_rfl, ?_⟩) hHeld ?_
                      rotate_left
                      · intro w hSw; obtain ⟨c1, g0, ea, hfc⟩ := hSw; go_simp; (try (with_reducible rfl))
                      try simp only [Act.put]
                      refine wpAnyG_ready (rs := [24]) (by kernel_rfl) (by simp) ?_
                      refine AllReadyG.cons rfl (fun K hK => ?_) AllReadyG.nil
                      rw [if_pos (by kernel_rfl)]
                      have k0 := Hk0.out.1
                      have kf := Hk0.out.2
                      go_simp
                      refine hK.out _ _ (fun h => absurd h (by decide)) ?_
                      clear hK K
                      try simp only [Act.put]
                      refine wpAnyG_done (by kernel_rfl) ?_ _
                      go_simp
                      clear hHeld k0 kf
                      go_wp2_with fail
                      go_roundw
                      case rel => exact ⟨i + 1, _, by go_num, by omega, Lib.hid (set_list Hl3.out.1 Hl3.out.2 hil _ Hx.out), HLw, HAw, HBw2⟩
                      case measure => simp [intOf]; omega
                    | true =>
                      have hpn : Calls Tryz.prog 93 #[.agg #[.slice ap P.length cp, .slice al L.length cl], .int .i64 (p : Int)] wr fun e w' => e = .returned (.int .i64 (nextN P.length N p : Nat)) ∧ Chg Nob wr w' := by
                        have hh := rnext_any (w := wr) (ap := ap) (al := al) (cp := cp) (cl := cl) (np := P.length) (nl := L.length) (by have := Hl.out; omega) p (by have := HNl.out; omega)
                        rw [← HNl.out] at hh
                        exact hh
                      obtain ⟨p2, hp2⟩ : ∃ p2, p2 = nextN P.length N p := ⟨_, rfl⟩
                      have hp2l : p2 < N := by
                        rw [hp2]; unfold nextN
                        have := HNl.out
                        have := H0.out
                        split <;> omega
                      rw [← hp2] at hpn
                      have Hw3 : Hid (walkR A B (!s.fin) P.length N (N + 1 - (k + 1)) p2 = walkR A B (!s.fin) P.length N (N + 1) i) := (show _ = _ by
                        have h1 := Hw2.out
                        rw [← hp2] at h1
                        rw [show N + 1 - (k + 1) = N - k by omega]
                        exact h1)
                      clear hp2 Hw2
                      go_wp2_with fail
                      (with_reducible refine hpn.mono ?_)
                      clear hpn
                      rintro e w5 ⟨rfl, hc5⟩
                      have Hc5 : Hid (Chg Nob wr1 w5) := (show Chg Nob wr1 w5 from Hc4.out.trans1 hc5)
                      clear hc5
                      go_wp2_with fail
                      go_roundw
                      case rel => exact ⟨p2, k + 1, rfl, by go_num, hp2l, by omega, Hw3, Hc5⟩
                      case measure => simp [intOf]; omega
                · have hke : k = N + 1 := by omega
                  have hki : ¬ (k : Int) ≤ (N : Int) := by omega
                  have hkid : decide ((k : Int) ≤ (N : Int)) = false := decide_eq_false hki
                  have hkin : decide (k ≤ N) = false := decide_eq_false hkN
                  have hkg : (N : Int) < (k : Int) := by omega
                  have Hw2 : Hid ((ya || !s.fin) = walkR A B (!s.fin) P.length N (N + 1) i) := (show _ = _ by
                    have h1 := Hw.out
                    rw [hke, Nat.sub_self, walkR, ← Hya.out] at h1
                    exact h1)
                  clear hke Hw
                  cases ya with
                  | true =>
                    have Hx : Hid (true = walkR A B (!s.fin) P.length N (N + 1) i) := (show true = _ from Hw2.out)
                    have hlast2 := (HL7.out.nob ((Chg.refl Nob wr).drew)).last
                    have Hk0 : Hid (wr.drew.cell? ⟨g, i, none⟩ = some (.bool (l.getD i false)) ∧ wr.drew.frozen? ⟨g, i, none⟩ = false) := (show _ ∧ _ from ⟨hlast2.2.1.cell (j := i) (x := l.getD i false) (getDb_some (by rw [hlast2.2.2]; exact hil)), hlast2.2.1.free i⟩)
                    have Hset : Hid (Chg (At1 g) wr.drew (wr.drew.setCell ⟨g, i, none⟩ (.bool true))) := (show Chg (At1 g) wr.drew _ from (Chg.refl (At1 g) wr.drew).setCell (p := ⟨g, i, none⟩) (fun _ => rfl) _)
                    have HLw := Lib.hid ((HL7.out.nob ((Chg.refl Nob wr).drew)).put (fun k g' hk => Nat.ne_of_lt (HgrW.out.2 k g' hk)) i true)
                    have HAw := Lib.hid (((HbA2.out.chg Hc4.out (fun e => e)).chg ((Chg.refl Nob wr).drew) (fun e => e)).chg Hset.out (fun e => Hne.out.1 e))
                    have HBw2 := Lib.hid (((HbB2.out.chg Hc4.out (fun e => e)).chg ((Chg.refl Nob wr).drew) (fun e => e)).chg Hset.out (fun e => Hne.out.2 e))
                    clear hlast2
                    go_wp2_with fail
                    refine wp_region_free (fun i => i != 24) (fun w' => w'.cell? ⟨w.heap.size, 1, none⟩ = some (.slice (some ⟨b', o', none⟩) S.length cs) ∧ w'.cell? ⟨gr, n, none⟩ = some (.slice (some ⟨g, 0, none⟩) N N) ∧ w'.cell? ⟨gl, p, none⟩ = some (.bool true) ∧ w'.cell? ⟨b', o' + n * 2, none⟩ = some (.bool s.fin)) (by kernel_rfl) ⟨c1, g0, ea, hfc⟩ (fun hHeld => ?_)
                    refine wpAnyG_take (i := 0) (v := ?_) rfl (by kernel_rfl) (fun _ _ _ h => h) (Or.inl ⟨by rfl, ?_⟩) hHeld ?_
                    rotate_left
                    · intro w hSw; obtain ⟨c1, g0, ea, hfc⟩ := hSw; go_simp; (try (with_reducible rfl))
                    simp only [Act.put, List.setIfInBounds_toArray]
                    refine wpAnyG_take (i := 1) (v := ?_) rfl (by kernel_rfl) (fun _ _ _ h => h) (Or.inl ⟨by rfl, ?_⟩) hHeld ?_
                    rotate_left
                    · intro w hSw; obtain ⟨c1, g0, ea, hfc⟩ := hSw; go_simp; (try (with_reducible rfl))
                    try simp only [Act.put]
                    refine wpAnyG_take (i := 2) (v := ?_) rfl (by kernel_rfl) (fun _ _ _ h => h) (Or.inl ⟨by rfl, ?_⟩) hHeld ?_
                    rotate_left
                    · intro w hSw; obtain ⟨c1, g0, ea, hfc⟩ := hSw; go_simp; (try (with_reducible rfl))
                    try simp only [Act.put]
                    refine wpAnyG_take (i := 3) (v := ?_) rfl (by kernel_rfl) (fun _ _ _ h => h) (Or.inl ⟨by rfl, ?_⟩) hHeld ?_
                    rotate_left
                    · intro w hSw; obtain ⟨c1, g0, ea, hfc⟩ := hSw; go_simp; (try (with_reducible rfl))
                    try simp only [Act.put]
                    refine wpAnyG_take (i := 4) (v := ?_) rfl (by kernel_rfl) (fun _ _ _ h => h) (Or.inl ⟨by kernel_rfl, ?_⟩) hHeld ?_
                    rotate_left
                    · intro w hSw; obtain ⟨c1, g0, ea, hfc⟩ := hSw; go_simp; (try (with_reducible rfl))
                    try simp only [Act.put]
                    refine wpAnyG_take (i := 5) (v := ?_) rfl (by kernel_rfl) (fun _ _ _ h => h) (Or.inl ⟨by kernel_rfl, ?_⟩) hHeld ?_
                    rotate_left
                    · intro w hSw; obtain ⟨c1, g0, ea, hfc⟩ := hSw; go_simp; (try (with_reducible rfl))
                    try simp only [Act.put]
                    refine wpAnyG_take (i := 6) (v := ?_) rfl (by kernel_rfl) (fun _ _ _ h => h) (Or.inl ⟨by kernel_rfl, ?_⟩) hHeld ?_
                    rotate_left
                    · intro w hSw; obtain ⟨c1, g0, ea, hfc⟩ := hSw; go_simp; (try (with_reducible rfl))
                    try simp only [Act.put]
                    refine wpAnyG_take (i := 7) (v := ?_) rfl (by kernel_rfl) (fun _ _ _ h => h) (Or.inl ⟨by kernel_rfl, ?_⟩) hHeld ?_
                    rotate_left
                    · intro w hSw; obtain ⟨c1, g0, ea, hfc⟩ := hSw; go_simp; (try (with_reducible rfl))
                    try simp only [Act.put]
                    refine wpAnyG_take (i := 8) (v := ?_) rfl (by kernel_rfl) (fun _ _ _ h => h) (Or.inl ⟨by kernel_rfl, ?_⟩) hHeld ?_
                    rotate_left
                    · intro w hSw; obtain ⟨c1, g0, ea, hfc⟩ := hSw; go_simp; (try (with_reducible rfl))
                    try simp only [Act.put]
                    refine wpAnyG_take (i := 9) (v := ?_) rfl (by kernel_rfl) (fun _ _ _ h => h) (Or.inl ⟨by kernel_rfl, ?_⟩) hHeld ?_
                    rotate_left
                    · intro w hSw; obtain ⟨c1, g0, ea, hfc⟩ := hSw; go_simp; (try (with_reducible rfl))
                    try simp only [Act.put]
                    refine wpAnyG_take (i := 10) (v := undef) rfl (by kernel_rfl) (fun _ _ _ h => h) (Or.inr ⟨by kernel_rfl, rfl⟩) hHeld ?_
                    try simp only [Act.put]
                    refine wpAnyG_take (i := 11) (v := undef) rfl (by kernel_rfl) (fun _ _ _ h => h) (Or.inr ⟨by kernel_rfl, rfl⟩) hHeld ?_
                    try simp only [Act.put]
                    refine wpAnyG_take (i := 12) (v := undef) rfl (by kernel_rfl) (fun _ _ _ h => h) (Or.inr ⟨by kernel_rfl, rfl⟩) hHeld ?_
                    try simp only [Act.put]
                    refine wpAnyG_take (i := 13) (v := undef) rfl (by kernel_rfl) (fun _ _ _ h => h) (Or.inr ⟨by kernel_rfl, rfl⟩) hHeld ?_
                    try simp only [Act.put]
                    refine wpAnyG_take (i := 14) (v := undef) rfl (by kernel_rfl) (fun _ _ _ h => h) (Or.inr ⟨by kernel_rfl, rfl⟩) hHeld ?_
                    try simp only [Act.put]
                    refine wpAnyG_take (i := 15) (v := undef) rfl (by kernel_rfl) (fun _ _ _ h => h) (Or.inr ⟨by kernel_rfl, rfl⟩) hHeld ?_
                    try simp only [Act.put]
                    refine wpAnyG_take (i := 16) (v := undef) rfl (by kernel_rfl) (fun _ _ _ h => h) (Or.inr ⟨by kernel_rfl, rfl⟩) hHeld ?_
                    try simp only [Act.put]
                    refine wpAnyG_take (i := 17) (v := undef) rfl (by kernel_rfl) (fun _ _ _ h => h) (Or.inr ⟨by kernel_rfl, rfl⟩) hHeld ?_
                    try simp only [Act.put]
                    refine wpAnyG_take (i := 18) (v := undef) rfl (by kernel_rfl) (fun _ _ _ h => h) (Or.inr ⟨by kernel_rfl, rfl⟩) hHeld ?_
                    try simp only [Act.put]
                    refine wpAnyG_take (i := 19) (v := undef) rfl (by kernel_rfl) (fun _ _ _ h => h) (Or.inr ⟨by kernel_rfl, rfl⟩) hHeld ?_
                    try simp only [Act.put]
                    refine wpAnyG_take (i := 20) (v := undef) rfl (by kernel_rfl) (fun _ _ _ h => h) (Or.inr ⟨by kernel_rfl, rfl⟩) hHeld ?_
                    try simp only [Act.put]
                    refine wpAnyG_take (i := 21) (v := undef) rfl (by kernel_rfl) (fun _ _ _ h => h) (Or.inr ⟨by kernel_rfl, rfl⟩) hHeld ?_
                    try simp only [Act.put]
                    refine wpAnyG_take (i := 22) (v := ?_) rfl (by kernel_rfl) (fun _ _ _ h => h) (Or.inl ⟨by kernel_rfl, ?_⟩) hHeld ?_
                    rotate_left
                    · intro w hSw; obtain ⟨c1, g0, ea, hfc⟩ := hSw; go_simp; (try (with_reducible rfl))
                    try simp only [Act.put]
                    refine wpAnyG_take (i := 23) (v := ?_) rfl (by kernel_rfl) (fun _ _ _ h => h) (Or.inl ⟨by kernel_rfl, ?_⟩) hHeld ?_
                    rotate_left
                    · intro w hSw; obtain ⟨c1, g0, ea, hfc⟩ := hSw; go_simp; (try (with_reducible rfl))
                    try simp only [Act.put]
                    refine wpAnyG_ready (rs := [24]) (by kernel_rfl) (by simp) ?_
                    refine AllReadyG.cons rfl (fun K hK => ?_) AllReadyG.nil
                    rw [if_pos (by kernel_rfl)]
                    have k0 := Hk0.out.1
                    have kf := Hk0.out.2
                    go_simp
                    refine hK.out _ _ (fun h => absurd h (by decide)) ?_
                    clear hK K
                    try simp only [Act.put]
                    refine wpAnyG_done (by kernel_rfl) ?_ _
                    go_simp
                    clear hHeld k0 kf
                    go_wp2_with fail
                    go_roundw
                    case rel => exact ⟨i + 1, _, by go_num, by omega, Lib.hid (set_list Hl3.out.1 Hl3.out.2 hil _ Hx.out), HLw, HAw, HBw2⟩
                    case measure => simp [intOf]; omega
                  | false =>
                    have Hx : Hid ((!s.fin) = walkR A B (!s.fin) P.length N (N + 1) i) := (show (!s.fin) = _ from by have h1 := Hw2.out; rw [Bool.false_or] at h1; exact h1)
                    have hlast2 := (HL7.out.nob ((Chg.refl Nob wr).drew)).last
                    have Hk0 : Hid (wr.drew.cell? ⟨g, i, none⟩ = some (.bool (l.getD i false)) ∧ wr.drew.frozen? ⟨g, i, none⟩ = false) := (show _ ∧ _ from ⟨hlast2.2.1.cell (j := i) (x := l.getD i false) (getDb_some (by rw [hlast2.2.2]; exact hil)), hlast2.2.1.free i⟩)
                    have Hset : Hid (Chg (At1 g) wr.drew (wr.drew.setCell ⟨g, i, none⟩ (.bool (!s.fin)))) := (show Chg (At1 g) wr.drew _ from (Chg.refl (At1 g) wr.drew).setCell (p := ⟨g, i, none⟩) (fun _ => rfl) _)
                    have HLw := Lib.hid ((HL7.out.nob ((Chg.refl Nob wr).drew)).put (fun k g' hk => Nat.ne_of_lt (HgrW.out.2 k g' hk)) i (!s.fin))
                    have HAw := Lib.hid (((HbA2.out.chg Hc4.out (fun e => e)).chg ((Chg.refl Nob wr).drew) (fun e => e)).chg Hset.out (fun e => Hne.out.1 e))
                    have HBw2 := Lib.hid (((HbB2.out.chg Hc4.out (fun e => e)).chg ((Chg.refl Nob wr).drew) (fun e => e)).chg Hset.out (fun e => Hne.out.2 e))
                    clear hlast2
                    go_wp2_with fail
                    refine wp_region_free (fun i => i != 24) (fun w' => w'.cell? ⟨w.heap.size, 1, none⟩ = some (.slice (some ⟨b', o', none⟩) S.length cs) ∧ w'.cell? ⟨gr, n, none⟩ = some (.slice (some ⟨g, 0, none⟩) N N) ∧ w'.cell? ⟨gl, p, none⟩ = some (.bool false) ∧ w'.cell? ⟨b', o' + n * 2, none⟩ = some (.bool s.fin)) (by kernel_rfl) ⟨c1, g0, ea, hfc⟩ (fun hHeld => ?_)
                    refine wpAnyG_take (i := 0) (v := ?_) rfl (by kernel_rfl) (fun _ _ _ h => h) (Or.inl ⟨by rfl, ?_⟩) hHeld ?_
                    rotate_left
                    · intro w hSw; obtain ⟨c1, g0, ea, hfc⟩ := hSw; go_simp; (try (with_reducible rfl))
                    simp only [Act.put, List.setIfInBounds_toArray]
                    refine wpAnyG_take (i := 1) (v := ?_) rfl (by kernel_rfl) (fun _ _ _ h => h) (Or.inl ⟨by rfl, ?_⟩) hHeld ?_
                    rotate_left
                    · intro w hSw; obtain ⟨c1, g0, ea, hfc⟩ := hSw; go_simp; (try (with_reducible rfl))
                    try simp only [Act.put]
                    refine wpAnyG_take (i := 2) (v := ?_) rfl (by kernel_rfl) (fun _ _ _ h => h) (Or.inl ⟨by rfl, ?_⟩) hHeld ?_
                    rotate_left
                    · intro w hSw; obtain ⟨c1, g0, ea, hfc⟩ := hSw; go_simp; (try (with_reducible rfl))
                    try simp only [Act.put]
                    refine wpAnyG_take (i := 3) (v := ?_) rfl (by kernel_rfl) (fun _ _ _ h => h) (Or.inl ⟨by rfl, ?_⟩) hHeld ?_
                    rotate_left
                    · intro w hSw; obtain ⟨c1, g0, ea, hfc⟩ := hSw; go_simp; (try (with_reducible rfl))
                    try simp only [Act.put]
                    refine wpAnyG_take (i := 4) (v := ?_) rfl (by kernel_rfl) (fun _ _ _ h => h) (Or.inl ⟨by kernel_rfl, ?_⟩) hHeld ?_
                    rotate_left
                    · intro w hSw; obtain ⟨c1, g0, ea, hfc⟩ := hSw; go_simp; (try (with_reducible rfl))
                    try simp only [Act.put]
                    refine wpAnyG_take (i := 5) (v := ?_) rfl (by kernel_rfl) (fun _ _ _ h => h) (Or.inl ⟨by kernel_rfl, ?_⟩) hHeld ?_
                    rotate_left
                    · intro w hSw; obtain ⟨c1, g0, ea, hfc⟩ := hSw; go_simp; (try (with_reducible rfl))
                    try simp only [Act.put]
                    refine wpAnyG_take (i := 6) (v := ?_) rfl (by kernel_rfl) (fun _ _ _ h => h) (Or.inl ⟨by kernel_rfl, ?_⟩) hHeld ?_
                    rotate_left
                    · intro w hSw; obtain ⟨c1, g0, ea, hfc⟩ := hSw; go_simp; (try (with_reducible rfl))
                    try simp only [Act.put]
                    refine wpAnyG_take (i := 7) (v := ?_) rfl (by kernel_rfl) (fun _ _ _ h => h) (Or.inl ⟨by kernel_rfl, ?_⟩) hHeld ?_
                    rotate_left
                    · intro w hSw; obtain ⟨c1, g0, ea, hfc⟩ := hSw; go_simp; (try (with_reducible rfl))
                    try simp only [Act.put]
                    refine wpAnyG_take (i := 8) (v := ?_) rfl (by kernel_rfl) (fun _ _ _ h => h) (Or.inl ⟨by kernel_rfl, ?_⟩) hHeld ?_
                    rotate_left
                    · intro w hSw; obtain ⟨c1, g0, ea, hfc⟩ := hSw; go_simp; (try (with_reducible rfl))
                    try simp only [Act.put]
                    refine wpAnyG_take (i := 9) (v := ?_) rfl (by kernel_rfl) (fun _ _ _ h => h) (Or.inl ⟨by kernel_rfl, ?_⟩) hHeld ?_
                    rotate_left
                    · intro w hSw; obtain ⟨c1, g0, ea, hfc⟩ := hSw; go_simp; (try (with_reducible rfl))
                    try simp only [Act.put]
                    refine wpAnyG_take (i := 10) (v := ?_) rfl (by kernel_rfl) (fun _ _ _ h => h) (Or.inl ⟨by kernel_rfl, ?_⟩) hHeld ?_
                    rotate_left
                    · intro w hSw; obtain ⟨c1, g0, ea, hfc⟩ := hSw; go_simp; (try (with_reducible rfl))
                    try simp only [Act.put]
                    refine wpAnyG_take (i := 11) (v := ?_) rfl (by kernel_rfl) (fun _ _ _ h => h) (Or.inl ⟨by kernel_rfl, ?_⟩) hHeld ?_
                    rotate_left
                    · intro w hSw; obtain ⟨c1, g0, ea, hfc⟩ := hSw; go_simp; (try (with_reducible rfl))
                    try simp only [Act.put]
                    refine wpAnyG_take (i := 12) (v := ?_) rfl (by kernel_rfl) (fun _ _ _ h => h) (Or.inl ⟨by kernel_rfl, ?_⟩) hHeld ?_
                    rotate_left
                    · intro w hSw; obtain ⟨c1, g0, ea, hfc⟩ := hSw; go_simp; (try (with_reducible rfl))
                    try simp only [Act.put]
                    refine wpAnyG_take (i := 13) (v := ?_) rfl (by kernel_rfl) (fun _ _ _ h => h) (Or.inl ⟨by kernel_rfl, ?_⟩) hHeld ?_
                    rotate_left
                    · intro w hSw; obtain ⟨c1, g0, ea, hfc⟩ := hSw; go_simp; (try (with_reducible rfl))
                    try simp only [Act.put]
                    refine wpAnyG_take (i := 14) (v := ?_) rfl (by kernel_rfl) (fun _ _ _ h => h) (Or.inl ⟨by kernel_rfl, ?_⟩) hHeld ?_
                    rotate_left
                    · intro w hSw; obtain ⟨c1, g0, ea, hfc⟩ := hSw; go_simp; (try (with_reducible rfl))
                    try simp only [Act.put]
                    refine wpAnyG_take (i := 15) (v := ?_) rfl (by kernel_rfl) (fun _ _ _ h => h) (Or.inl ⟨by kernel_rfl, ?_⟩) hHeld ?_
                    rotate_left
                    · intro w hSw; obtain ⟨c1, g0, ea, hfc⟩ := hSw; go_simp; (try (with_reducible rfl))
                    try simp only [Act.put]
                    refine wpAnyG_take (i := 16) (v := ?_) rfl (by kernel_rfl) (fun _ _ _ h => h) (Or.inl ⟨by kernel_rfl, ?_⟩) hHeld ?_
                    rotate_left
                    · intro w hSw; obtain ⟨c1, g0, ea, hfc⟩ := hSw; go_simp; (try (with_reducible rfl))
                    try simp only [Act.put]
                    refine wpAnyG_take (i := 17) (v := ?_) rfl (by kernel_rfl) (fun _ _ _ h => h) (Or.inl ⟨by kernel_rfl, ?_⟩) hHeld ?_
                    rotate_left
                    · intro w hSw; obtain ⟨c1, g0, ea, hfc⟩ := hSw; go_simp; (try (with_reducible rfl))
                    try simp only [Act.put]
                    refine wpAnyG_take (i := 18) (v := ?_) rfl (by kernel_rfl) (fun _ _ _ h => h) (Or.inl ⟨by kernel_rfl, ?_⟩) hHeld ?_
                    rotate_left
                    · intro w hSw; obtain ⟨c1, g0, ea, hfc⟩ := hSw; go_simp; (try (with_reducible rfl))
                    try simp only [Act.put]
                    refine wpAnyG_take (i := 19) (v := ?_) rfl (by kernel_rfl) (fun _ _ _ h => h) (Or.inl ⟨by kernel_rfl, ?_⟩) hHeld ?_
                    rotate_left
                    · intro w hSw; obtain ⟨c1, g0, ea, hfc⟩ := hSw; go_simp; (try (with_reducible rfl))
                    try simp only [Act.put]
                    refine wpAnyG_take (i := 20) (v := ?_) rfl (by kernel_rfl) (fun _ _ _ h => h) (Or.inl ⟨by kernel_rfl, ?_⟩) hHeld ?_
                    rotate_left
                    · intro w hSw; obtain ⟨c1, g0, ea, hfc⟩ := hSw; go_simp; (try (with_reducible rfl))
                    try simp only [Act.put]
                    refine wpAnyG_take (i := 21) (v := ?_) rfl (by kernel_rfl) (fun _ _ _ h => h) (Or.inl ⟨by kernel_rfl, ?_⟩) hHeld ?_
                    rotate_left
                    · intro w hSw; obtain ⟨c1, g0, ea, hfc⟩ := hSw; go_simp; (try (with_reducible rfl))
                    try simp only [Act.put]
                    refine wpAnyG_take (i := 22) (v := ?_) rfl (by kernel_rfl) (fun _ _ _ h => h) (Or.inl ⟨by kernel_rfl, ?_⟩) hHeld ?_
                    rotate_left
                    · intro w hSw; obtain ⟨c1, g0, ea, hfc⟩ := hSw; go_simp; (try (with_reducible rfl))
                    try simp only [Act.put]
                    refine wpAnyG_take (i := 23) (v := ?_) rfl (by kernel_rfl) (fun _ _ _ h => h) (Or.inl ⟨by kernel_rfl, ?_⟩) hHeld ?_
                    rotate_left
                    · intro w hSw; obtain ⟨c1, g0, ea, hfc⟩ := hSw; go_simp; (try (with_reducible rfl))
                    try simp only [Act.put]
                    refine wpAnyG_ready (rs := [24]) (by kernel_rfl) (by simp) ?_
                    refine AllReadyG.cons rfl (fun K hK => ?_) AllReadyG.nil
                    rw [if_pos (by kernel_rfl)]
                    have k0 := Hk0.out.1
                    have kf := Hk0.out.2
                    go_simp
                    refine hK.out _ _ (fun h => absurd h (by decide)) ?_
                    clear hK K
                    try simp only [Act.put]
                    refine wpAnyG_done (by kernel_rfl) ?_ _
                    go_simp
                    clear hHeld k0 kf
                    go_wp2_with fail
                    go_roundw
                    case rel => exact ⟨i + 1, _, by go_num, by omega, Lib.hid (set_list Hl3.out.1 Hl3.out.2 hil _ Hx.out), HLw, HAw, HBw2⟩
                    case measure => simp [intOf]; omega
            · have hie : i = N := by omega
              have hii : ¬ (i : Int) < (N : Int) := by omega
              have hiid : decide ((i : Int) < (N : Int)) = false := decide_eq_false hii
              have hiin : decide (i < N) = false := decide_eq_false hil
              have HLf : Hid (RowsL wr X gr S.length (gs ++ [g]) (rowsR S (P ++ L) P.length (n + 1)) N) := (show RowsL wr X gr S.length (gs ++ [g]) (rowsR S (P ++ L) P.length (n + 1)) N by
                have h1 : l = rowR R s (P ++ L) P.length n := by
                  unfold rowR
                  rw [← HN.out, ← HAe.out, ← HBe.out]
                  exact range_list Hl3.out.1 (fun q hq => Hl3.out.2 q (by omega))
                rw [rowsR, ← HRe.out, Hsd.out, ← h1]
                exact HLr.out)
              clear hie
              go_wp2_with fail
              go_roundw
              case rel => exact ⟨n + 1, _, by go_num, by omega, HLf⟩
              case measure => simp [intOf]; omega
    · obtain rfl : n = S.length := by omega
      have HRf : Hid (RowsW wr gr S.length gs (rowsR S (P ++ L) P.length S.length) N) := (show RowsW wr gr S.length gs (rowsR S (P ++ L) P.length S.length) N from HLn.out.rows (by rw [rowsR_length]; exact Nat.le_refl _))
      go_wp2_with fail
      go_ret
      exact ⟨HcX.out.trans1 HLn.out.chg, _, _, rfl, HRf.out⟩
end
end Go.Proofs.YtkgfdgfhpdhhaaaGreat
