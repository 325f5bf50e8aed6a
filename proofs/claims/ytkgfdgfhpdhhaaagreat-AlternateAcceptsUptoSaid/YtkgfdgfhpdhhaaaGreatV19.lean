/- Parts of the walks and of the plain theory: The reference's step: whether a move may be taken at a place. Conditions: the automaton, the word and the rows lie in the world, numbers are of 64 bits. -/
import Derived.Test.YtkgfdgfhpdhhaaaGreatV18
import Derived.Test.YtkgfdgfhpdhhaaaGreatV17
namespace Go.Proofs.YtkgfdgfhpdhhaaaGreat
open Go.ChangeShapes Go.WideShapes Go.RowKit
attribute [local go_sem] Oper.semAt_some
structure RowsW (W : World) (gr ns : Nat) (gs : List Nat) (rows : List (List Bool)) (n : Nat) : Prop where
  len : gs.length = rows.length
  le : rows.length ≤ ns
  row : ∀ (k g : Nat) (r : List Bool), gs[k]? = some g → rows[k]? = some r → W.cell? ⟨gr, k, none⟩ = some (.slice (some ⟨g, 0, none⟩) n n) ∧ BBlk W g r ∧ r.length = n
theorem RowsW.nob {W W' : World} {gr ns : Nat} {gs : List Nat} {rows : List (List Bool)} {n : Nat} (h : RowsW W gr ns gs rows n) (hc : Chg Nob W W') : RowsW W' gr ns gs rows n :=
  ⟨h.len, h.le, fun k g r h1 h2 => by
    obtain ⟨a, b, c⟩ := h.row k g r h1 h2
    exact ⟨hc.cell' a (fun e => e), b.chg hc (fun e => e), c⟩⟩
theorem RowsW.at {W : World} {gr ns : Nat} {gs : List Nat} {rows : List (List Bool)} {n : Nat} (h : RowsW W gr ns gs rows n) {k : Nat} (hk : k < rows.length) : ∃ g, W.cell? ⟨gr, k, none⟩ = some (.slice (some ⟨g, 0, none⟩) n n) ∧ BBlk W g (rows.getD k []) ∧ (rows.getD k []).length = n := by
  have hg : k < gs.length := by rw [h.len]; exact hk
  obtain ⟨a, b, c⟩ := h.row k gs[k] (rows.getD k []) (List.getElem?_eq_getElem hg) (by rw [List.getD_eq_getElem?_getD, List.getElem?_eq_getElem hk]; rfl)
  exact ⟨_, a, b, c⟩
theorem wordO_at {P L : List Int} {i : Nat} (h : i < P.length + L.length) : wordO P L i = some ((P ++ L).getD i 0) := by
  have h2 : (P ++ L)[i]? = some ((P ++ L).getD i 0) := by rw [List.getD_eq_getElem?_getD, List.getElem?_eq_getElem (by rw [List.length_append]; exact h)]; rfl
  rw [← h2]
  unfold wordO
  split
  · rename_i h3; rw [List.getElem?_append_left h3]
  · rename_i h3
    rw [List.getElem?_append_right (by omega), Nat.mod_eq_of_lt (by omega)]
def othersR (R : List (List Bool)) (l : List Int) (n q : Nat) : Bool := l.all fun k => k == (n : Int) || (R.getD k.toNat []).getD q false
def stepM (R : List (List Bool)) (M : List Int) (np n i : Nat) (own : Bool) (m : Mvi) : Bool :=
  (hasI m.yes m.no (M.getD i 0) && othersR R m.to n (nextN np M.length i)) && (m.to.any (fun k => k == (n : Int)) == own)
def stepB (R : List (List Bool)) (ms : List Mvi) (M : List Int) (np n i : Nat) (own : Bool) : Bool := ms.any (stepM R M np n i own)
section
variable {w : World} {ai as' ap al : Option Addr} {ci cs cp cl : Nat} {I : List (List Int)} {S : List Sti} {P L : List Int} {gr ns : Nat} {gs : List Nat} {R : List (List Bool)}
set_option maxRecDepth 100000 in
set_option maxHeartbeats 8000000 in
theorem rstep_any (k : SRow w as' S) (hl : P.length + L.length ≤ 4096) (h0 : 0 < L.length) (hP : URow w ap P) (hL : URow w al L) (hU : ∀ x ∈ P ++ L, okU x) (n : Nat) (hn : n < S.length) (hS : S.length ≤ 4096) (hns : ns ≤ 4096) (hm : ∀ m ∈ (S.getD n s0).moves, okU m.yes ∧ okU m.no)
    (hto : stateP (S.getD n s0) n) (hR : RowsW w gr ns gs R (P ++ L).length) (hRn : R.length = n) (i : Nat) (hi : i < P.length + L.length) (own : Bool) :
    Calls Tryz.prog 92 #[.agg #[.slice ai I.length ci, .slice as' S.length cs], .agg #[.slice ap P.length cp, .slice al L.length cl], .slice (some ⟨gr, 0, none⟩) ns ns, .int .i64 (n : Int), .int .i64 (i : Int), .bool own] w fun e w' => e = .returned (.bool (stepB R (S.getD n s0).moves (P ++ L) P.length n i own)) ∧ Chg Nob w w' := by
  obtain ⟨X, hX, hcX, hb0, hb1, hsX⟩ : ∃ X, X = (w.alloc (.cells #[.slice ai I.length ci, .slice as' S.length cs] 38)).alloc (.cells #[.slice ap P.length cp, .slice al L.length cl] 28) ∧ Chg Nob w X ∧ X.heap[w.heap.size]? = some (.cells #[.slice ai I.length ci, .slice as' S.length cs] 38 (0, 0)) ∧ X.heap[w.heap.size + 1]? = some (.cells #[.slice ap P.length cp, .slice al L.length cl] 28 (0, 0)) ∧ X.heap.size = w.heap.size + 2 := by
    have h1 := heap_alloc_new (w.alloc (.cells #[.slice ai I.length ci, .slice as' S.length cs] 38)) (.cells #[.slice ap P.length cp, .slice al L.length cl] 28)
    rw [World.size_alloc] at h1
    exact ⟨_, rfl, ((Chg.refl _ _).alloc _).alloc _, ((Chg.refl Nob _).alloc _).at (heap_alloc_new w _) (fun e => e), h1, by rw [World.size_alloc, World.size_alloc]⟩
  obtain ⟨c0, c1, _⟩ := cell_two hb0
  obtain ⟨d0, d1, _⟩ := cell_two hb1
  have HcX := Lib.hid hcX
  obtain ⟨s, hs⟩ : ∃ s, S[n]? = some s := ⟨_, List.getElem?_eq_getElem hn⟩
  have hsd : S.getD n s0 = s := by rw [List.getD_eq_getElem?_getD, hs]; rfl
  rw [hsd] at hm hto ⊢
  obtain ⟨b, o, am, cm, rfl, hf, hmv, hml, hmr⟩ := (k.nob hcX) n s hs
  have HP := Lib.hid (hP.nob hcX)
  have HL := Lib.hid (hL.nob hcX)
  have HR := Lib.hid (hR.nob hcX)
  have HU := Lib.hid hU
  have Hm := Lib.hid hm
  have Hto := Lib.hid hto
  have Hmr := Lib.hid hmr
  have HB : Hid (∀ W, Chg Nob X W → W.cell? ⟨w.heap.size + 1, 0, none⟩ = some (.slice ap P.length cp) ∧ W.cell? ⟨w.heap.size + 1, 1, none⟩ = some (.slice al L.length cl)) := (show ∀ W, Chg Nob X W → _ ∧ _ from fun W hW => ⟨hW.cell' d0 (fun e => e), hW.cell' d1 (fun e => e)⟩)
  obtain ⟨x, hx⟩ : ∃ x, x = (P ++ L).getD i 0 := ⟨_, rfl⟩
  have hMl : (P ++ L).length = P.length + L.length := List.length_append
  have Hpw : Hid (∀ V, Chg Nob X V → Calls Tryz.prog 146 #[.agg #[.slice ap P.length cp, .slice al L.length cl], .int .u64 (i : Int)] V fun e w' => e = .returned (.int .u64 x) ∧ Chg Nob V w') := (show ∀ V, Chg Nob X V → Calls Tryz.prog 146 #[.agg #[.slice ap P.length cp, .slice al L.length cl], .int .u64 (i : Int)] V fun e w' => e = .returned (.int .u64 x) ∧ Chg Nob V w' from fun V hV => wletter_any (by omega) h0 (HP.out.nob hV) (HL.out.nob hV) i (by omega) (by rw [wordO_at hi, hx]))
  have HxU : Hid (okU x) := (show okU x by
    rw [hx, List.getD_eq_getElem?_getD, List.getElem?_eq_getElem (by rw [hMl]; exact hi)]
    exact hU _ (List.getElem_mem _))
  obtain ⟨q, hq⟩ : ∃ q, q = nextN P.length (P.length + L.length) i := ⟨_, rfl⟩
  have hql : q < P.length + L.length := by rw [hq]; unfold nextN; split <;> omega
  have Hpn : Hid (∀ V, Calls Tryz.prog 93 #[.agg #[.slice ap P.length cp, .slice al L.length cl], .int .i64 (i : Int)] V fun e w' => e = .returned (.int .i64 (q : Int)) ∧ Chg Nob V w') := (show ∀ V, Calls Tryz.prog 93 #[.agg #[.slice ap P.length cp, .slice al L.length cl], .int .i64 (i : Int)] V fun e w' => e = .returned (.int .i64 (q : Int)) ∧ Chg Nob V w' from fun V => hq ▸ rnext_any (by omega) i hi)
  have Hst : Hid (∀ m, stepM R (P ++ L) P.length n i own m = ((hasI m.yes m.no x && othersR R m.to n q) && (m.to.any (fun k => k == (n : Int)) == own))) := (show ∀ m, _ = _ from fun m => by unfold stepM; rw [hMl, ← hx, ← hq])
  have hnS : (n : Int) < (S.length : Int) := by omega
  have hn0 : (0 : Int) ≤ (n : Int) := by omega
  have hi0 : (0 : Int) ≤ (i : Int) := by omega
  have hi4 : (i : Int) ≤ 4096 := by omega
  have hil : (i : Int) < 18446744073709551616 := by omega
  have hq4 : (q : Int) < ((P ++ L).length : Int) := by omega
  have hq0 : (0 : Int) ≤ (q : Int) := by omega
  have HRn := Lib.hid hRn
  have Hns : Hid (n < 4097 ∧ R.length ≤ ns ∧ ns ≤ 4096) := (show _ ∧ _ ∧ _ from ⟨by omega, hR.le, hns⟩)
  obtain ⟨N, hN⟩ : ∃ N, N = (P ++ L).length := ⟨_, rfl⟩
  rw [← hN] at HR hq4 hMl
  have hN4 : N ≤ 4096 := by omega
  rw [hX] at c0 c1 d0 d1 hmv
  clear hP hL hR hU hm hto hmr hb0 hb1 hcX k hq hx hql hf hs hsd hl h0 hRn hMl hsX hN hi hS hns
  unfold stepB
  go_enter Tryz.func92, Tryz.ntmps92
  go_wp2_with fail
  rw [← hX]
  clear hX c0 c1 d0 d1 hmv
  go_loopw [14] (fun kv wr => ∃ k : Nat, kv = .int .i64 (k : Int) ∧ k ≤ s.moves.length ∧ Hid (∀ (j : Nat) m, j < k → s.moves[j]? = some m → stepM R (P ++ L) P.length n i own m = false) ∧ Hid (Chg Nob X wr)) (fun kv _ => s.moves.length - (intOf kv).toNat)
  case atStart => exact ⟨0, rfl, Nat.zero_le _, (by show ∀ (j : Nat) m, j < 0 → _; intro j m hj; omega), Chg.refl _ _⟩
  case round =>
    obtain ⟨k, rfl, hk, Hno, Hc⟩ := hrel
    by_cases hkl : k < s.moves.length
    · obtain ⟨m, hm⟩ : ∃ m, s.moves[k]? = some m := ⟨_, List.getElem?_eq_getElem hkl⟩
      obtain ⟨b2, o2, at', ct, rfl, hy, hno, hto, htl, htr⟩ := Hmr.out k m hm
      have hki : (k : Int) < (s.moves.length : Int) := by omega
      have hk0 : (0 : Int) ≤ (k : Int) := by omega
      have hy2 := Hc.out.cell' hy (fun e => e)
      have hno2 := Hc.out.cell' hno (fun e => e)
      have HTo : Hid (∀ V, Chg Nob X V → V.cell? ⟨b2, o2 + k * 3 + 2, none⟩ = some (.slice at' m.to.length ct)) := (show ∀ V, Chg Nob X V → _ from fun V hV => hV.cell' hto (fun e => e))
      obtain ⟨d0, d1⟩ := HB.out wr Hc.out
      obtain ⟨hmu, hmu2⟩ := Hm.out m (List.mem_of_getElem? hm)
      have Hph : Hid (∀ V, Calls Tryz.prog 145 #[.agg #[.int .u64 m.yes, .int .u64 m.no], .int .u64 x] V fun e w' => e = .returned (.bool (hasI m.yes m.no x)) ∧ Chg Nob V w') := (show ∀ V, Calls Tryz.prog 145 #[.agg #[.int .u64 m.yes, .int .u64 m.no], .int .u64 x] V fun e w' => e = .returned (.bool (hasI m.yes m.no x)) ∧ Chg Nob V w' from fun V => rhas_any V m.yes m.no x hmu hmu2 HxU.out)
      have HS : Hid (∀ w', Chg Nob X w' → w'.cell? ⟨w.heap.size + 1, 0, none⟩ = some (.slice ap P.length cp) ∧ w'.cell? ⟨w.heap.size + 1, 1, none⟩ = some (.slice al L.length cl) ∧ w'.cell? ⟨b2, o2 + k * 3, none⟩ = some (.int .u64 m.yes) ∧ w'.cell? ⟨b2, o2 + k * 3 + 1, none⟩ = some (.int .u64 m.no)) := (show ∀ w', Chg Nob X w' → w'.cell? ⟨w.heap.size + 1, 0, none⟩ = some (.slice ap P.length cp) ∧ w'.cell? ⟨w.heap.size + 1, 1, none⟩ = some (.slice al L.length cl) ∧ w'.cell? ⟨b2, o2 + k * 3, none⟩ = some (.int .u64 m.yes) ∧ w'.cell? ⟨b2, o2 + k * 3 + 1, none⟩ = some (.int .u64 m.no) from fun w' h => ⟨(HB.out w' h).1, (HB.out w' h).2, h.cell' hy (fun e => e), h.cell' hno (fun e => e)⟩)
      have Hmk := Lib.hid hm
      have Htr := Lib.hid htr
      have Hmt : Hid (∀ z ∈ m.to, 0 ≤ z ∧ z ≤ (n : Int)) := (show ∀ z ∈ m.to, 0 ≤ z ∧ z ≤ (n : Int) from fun z hz => by
        have h1 := (Hto.out k hkl).2
        rw [List.getD_eq_getElem?_getD, hm] at h1
        simp only [Option.getD_some] at h1
        obtain ⟨jj, hjj, rfl⟩ := List.mem_iff_getElem.1 hz
        have h2 := h1 jj hjj
        unfold okAt at h2
        rw [List.getD_eq_getElem?_getD, List.getElem?_eq_getElem hjj] at h2
        simp only [Option.getD_some] at h2
        omega)
      clear hm hy hno hto htr hmu hmu2
      go_wp2_with fail
      refine wp_region_free (fun _ => true) (fun w' => w'.cell? ⟨w.heap.size + 1, 0, none⟩ = some (.slice ap P.length cp) ∧ w'.cell? ⟨w.heap.size + 1, 1, none⟩ = some (.slice al L.length cl) ∧ w'.cell? ⟨b2, o2 + k * 3, none⟩ = some (.int .u64 m.yes) ∧ w'.cell? ⟨b2, o2 + k * 3 + 1, none⟩ = some (.int .u64 m.no)) (by kernel_rfl) ⟨d0, d1, hy2, hno2⟩ (fun hHeld => ?_)
      refine wpAnyG_take (i := 0) (v := ?_) rfl (by kernel_rfl) (fun _ _ _ h => h) (Or.inl ⟨by rfl, ?_⟩) hHeld ?_
      rotate_left
      · intro w hSw; obtain ⟨d0, d1, hy2, hno2⟩ := hSw; go_simp; (try (with_reducible rfl))
      simp only [Act.put, List.setIfInBounds_toArray]
      refine wpAnyG_take (i := 1) (v := ?_) rfl (by kernel_rfl) (fun _ _ _ h => h) (Or.inl ⟨by rfl, ?_⟩) hHeld ?_
      rotate_left
      · intro w hSw; obtain ⟨d0, d1, hy2, hno2⟩ := hSw; go_simp; (try (with_reducible rfl))
      try simp only [Act.put]
      refine wpAnyG_take (i := 2) (v := ?_) rfl (by kernel_rfl) (fun _ _ _ h => h) (Or.inl ⟨by rfl, ?_⟩) hHeld ?_
      rotate_left
      · intro w hSw; obtain ⟨d0, d1, hy2, hno2⟩ := hSw; go_simp; (try (with_reducible rfl))
      try simp only [Act.put]
      refine wpAnyG_take (i := 3) (v := ?_) rfl (by kernel_rfl) (fun _ _ _ h => h) (Or.inl ⟨by rfl, ?_⟩) hHeld ?_
      rotate_left
      · intro w hSw; obtain ⟨d0, d1, hy2, hno2⟩ := hSw; go_simp; (try (with_reducible rfl))
      try simp only [Act.put]
      refine wpAnyG_take (i := 4) (v := ?_) rfl (by kernel_rfl) (fun _ _ _ h => h) (Or.inl ⟨by kernel_rfl, ?_⟩) hHeld ?_
      rotate_left
      · intro w hSw; obtain ⟨d0, d1, hy2, hno2⟩ := hSw; go_simp; (try (with_reducible rfl))
      try simp only [Act.put]
      refine wpAnyG_take (i := 5) (v := ?_) rfl (by kernel_rfl) (fun _ _ _ h => h) (Or.inl ⟨by kernel_rfl, ?_⟩) hHeld ?_
      rotate_left
      · intro w hSw; obtain ⟨d0, d1, hy2, hno2⟩ := hSw; go_simp; (try (with_reducible rfl))
      try simp only [Act.put]
      refine wpAnyG_take (i := 6) (v := ?_) rfl (by kernel_rfl) (fun _ _ _ h => h) (Or.inl ⟨by kernel_rfl, ?_⟩) hHeld ?_
      rotate_left
      · intro w hSw; obtain ⟨d0, d1, hy2, hno2⟩ := hSw; go_simp; (try (with_reducible rfl))
      try simp only [Act.put]
      refine wpAnyG_take (i := 7) (v := ?_) rfl (by kernel_rfl) (fun _ _ _ h => h) (Or.inl ⟨by kernel_rfl, ?_⟩) hHeld ?_
      rotate_left
      · intro w hSw; obtain ⟨d0, d1, hy2, hno2⟩ := hSw; go_simp; (try go_bits); (try (with_reducible rfl))
      try simp only [Act.put]
      refine wpAnyG_ready (rs := [8]) (by kernel_rfl) (by simp) ?_
      refine AllReadyG.cons rfl (fun K hK => ?_) AllReadyG.nil
      rw [if_pos (by kernel_rfl)]
      go_simp
      (with_reducible refine (Hpw.out _ ((Hc.out.drew))).mono ?_)
      rintro e v1 ⟨rfl, hc5⟩
      have Hv1 : Hid (Chg Nob X v1) := (show Chg Nob X v1 from ((Hc.out.drew)).trans1 hc5)
      clear hc5
      refine hK.out _ _ (fun _ => HS.out _ Hv1.out) ?_
      clear hK K
      try simp only [Act.put]
      refine wpAnyG_ready (rs := [9]) (by kernel_rfl) (by simp) ?_
      refine AllReadyG.cons rfl (fun K hK => ?_) AllReadyG.nil
      rw [if_pos (by kernel_rfl)]
      go_simp
      (with_reducible refine (Hph.out _).mono ?_)
      rintro e v2 ⟨rfl, hc5⟩
      have Hv2 : Hid (Chg Nob X v2) := (show Chg Nob X v2 from (Hv1.out).trans1 hc5)
      clear hc5
      refine hK.out _ _ (fun _ => HS.out _ Hv2.out) ?_
      clear hK K
      try simp only [Act.put]
      refine wpAnyG_take (i := 10) (v := ?_) rfl (by kernel_rfl) (fun _ _ _ h => h) (Or.inl ⟨by kernel_rfl, ?_⟩) (HS.out _ Hv2.out) ?_
      rotate_left
      · intro w hSw; obtain ⟨d0, d1, hy2, hno2⟩ := hSw; go_simp; (try (with_reducible rfl))
      try simp only [Act.put]
      refine wpAnyG_done (by kernel_rfl) ?_ _
      go_simp
      clear hHeld hy2 hno2 d0 d1 HS
      obtain ⟨hb, hhb⟩ : ∃ hb, hb = hasI m.yes m.no x := ⟨_, rfl⟩
      rw [← hhb]
      have Hhb := Lib.hid hhb
      clear hhb Hph
      go_wp2_with fail
      go_loopw [15, 16, 17] (fun fv sv jv wr => ∃ (j : Nat) (fb sb : Bool), jv = .int .i64 (j : Int) ∧ fv = .bool fb ∧ sv = .bool sb ∧ j ≤ m.to.length ∧ Hid (fb = (hb && othersR R (m.to.take j) n q)) ∧ Hid (sb = (m.to.take j).any (fun k => k == (n : Int))) ∧ Hid (Chg Nob X wr)) (fun _ _ jv _ => m.to.length - (intOf jv).toNat)
      case atStart => exact ⟨0, hb, false, rfl, rfl, rfl, Nat.zero_le _, (show hb = _ by rw [List.take_zero]; unfold othersR; simp), (show false = _ by rw [List.take_zero]; rfl), Hv2⟩
      case round =>
        obtain ⟨j, fb, sb, rfl, rfl, rfl, hj, Hf, Hs, Hc3⟩ := hrel
        have hto2 := HTo.out wr Hc3.out
        have fin : (fb = false ∨ j = m.to.length) → Hid (stepM R (P ++ L) P.length n i own m = (fb && (sb == own))) := fun he => Lib.hid (by
          rw [Hst.out m, ← Hhb.out]
          rcases he with he | he
          · rw [he]
            have h1 := Hf.out
            rw [he] at h1
            cases hb with
            | false => rfl
            | true =>
              have h2 : othersR R (m.to.take j) n q = false := h1.symm
              have h3 : othersR R m.to n q = false := by
                unfold othersR at h2 ⊢
                rw [List.all_eq_false] at h2 ⊢
                obtain ⟨z, hz, hz2⟩ := h2
                exact ⟨z, List.mem_of_mem_take hz, hz2⟩
              rw [h3]; rfl
          · have h1 := Hf.out
            have h2 := Hs.out
            rw [he, List.take_length] at h1 h2
            rw [h1, h2])
        have more : ∀ (fb : Bool) (k' : Nat), fb = (stepM R (P ++ L) P.length n i own m) → k' = k → fb = false → Hid (∀ (j : Nat) m', j < k' + 1 → s.moves[j]? = some m' → stepM R (P ++ L) P.length n i own m' = false) := fun fb k' h1 h2 h3 => Lib.hid (fun j m' hj hm' => by
          subst h2
          by_cases e : j = k'
          · subst e; rw [Hmk.out] at hm'; cases hm'; rw [← h1]; exact h3
          · exact Hno.out j m' (by omega) hm')
        have found : stepM R (P ++ L) P.length n i own m = true → Hid (s.moves.any (stepM R (P ++ L) P.length n i own) = true) := fun h => Lib.hid (List.any_eq_true.2 ⟨m, List.mem_of_getElem? Hmk.out, h⟩)
        by_cases hjl : j < m.to.length
        · have hji : (j : Int) < (m.to.length : Int) := by omega
          have hjd : decide ((j : Int) < (m.to.length : Int)) = true := decide_eq_true hji
          cases fb with
          | true =>
            obtain ⟨z, hz⟩ : ∃ z, m.to[j]? = some z := ⟨_, List.getElem?_eq_getElem hjl⟩
            obtain ⟨a, rfl, hzc⟩ := Htr.out j z hz
            have hzc2 := Hc3.out.cell' hzc (by unfold Addr.add; split <;> exact fun e => e)
            obtain ⟨hz0, hzn⟩ := Hmt.out z (List.mem_of_getElem? hz)
            obtain ⟨kz, rfl⟩ : ∃ kz : Nat, z = (kz : Int) := ⟨z.toNat, by omega⟩
            have htk : m.to.take (j + 1) = m.to.take j ++ [(kz : Int)] := by
              rw [List.take_succ_eq_append_getElem hjl]
              rw [List.getElem?_eq_getElem hjl] at hz
              simp only [Option.some.injEq] at hz
              rw [hz]
            have hj0 : (0 : Int) ≤ (j : Int) := by omega
            have Hstep : ∀ (y e : Bool), e = ((kz : Int) == (n : Int)) → y = (e || (R.getD kz []).getD q false) → Hid (y = (hb && othersR R (m.to.take (j + 1)) n q)) := fun y e he hy => Lib.hid (by
              have h1 := Hf.out
              unfold othersR at h1 ⊢
              rw [htk, List.all_append, ← Bool.and_assoc]
              have h4 : (hb && (List.take j m.to).all fun k => k == (n : Int) || (R.getD k.toNat []).getD q false) = true := by simpa using h1.symm
              rw [h4, hy, he]
              simp)
            have Hsp : ∀ (y e : Bool), e = ((kz : Int) == (n : Int)) → y = (sb || e) → Hid (y = (m.to.take (j + 1)).any (fun k => k == (n : Int))) := fun y e he hy => Lib.hid (by
              rw [htk, List.any_append, ← Hs.out, hy, he]
              simp)
            clear hz hzc htk fin more found
            by_cases hkn : kz = n
            · have hkb : ((kz : Int) == (n : Int)) = true := beq_iff_eq.2 (by rw [hkn])
              have H1 := Hstep true true hkb.symm rfl
              have H2 := Hsp true true hkb.symm (by cases sb <;> rfl)
              clear Hstep Hsp
              go_wp2_with fail
              go_roundw
              case rel => exact ⟨j + 1, true, true, by go_num, rfl, rfl, by omega, H1, H2, Hc3⟩
              case measure => simp [intOf]; omega
            · have hkb : ((kz : Int) == (n : Int)) = false := beq_eq_false_iff_ne.2 (fun e => hkn (by omega))
              have hki2 : ¬ (kz : Int) = (n : Int) := by omega
              obtain ⟨y, hy⟩ : ∃ y, y = (R.getD kz []).getD q false := ⟨_, rfl⟩
              have H1 := Hstep y false hkb.symm (by rw [hy]; rfl)
              have H2 := Hsp sb false hkb.symm (by cases sb <;> rfl)
              have hkR : kz < R.length := by rw [HRn.out]; omega
              obtain ⟨g, hg, hgb, hgl⟩ := HR.out.at hkR
              have hgc := hgb.cell (j := q) (x := y) (by rw [hy]; exact getDb_some (by omega))
              have hkz0 : (0 : Int) ≤ (kz : Int) := by omega
              have hkzn : (kz : Int) < (ns : Int) := by have := Hns.out; omega
              have HS2 : Hid (∀ w', Chg Nob X w' → w'.cell? ⟨w.heap.size + 1, 0, none⟩ = some (.slice ap P.length cp) ∧ w'.cell? ⟨w.heap.size + 1, 1, none⟩ = some (.slice al L.length cl) ∧ w'.cell? ⟨gr, kz, none⟩ = some (.slice (some ⟨g, 0, none⟩) N N) ∧ w'.cell? ⟨g, q, none⟩ = some (.bool y)) := (show ∀ w', Chg Nob X w' → w'.cell? ⟨w.heap.size + 1, 0, none⟩ = some (.slice ap P.length cp) ∧ w'.cell? ⟨w.heap.size + 1, 1, none⟩ = some (.slice al L.length cl) ∧ w'.cell? ⟨gr, kz, none⟩ = some (.slice (some ⟨g, 0, none⟩) N N) ∧ w'.cell? ⟨g, q, none⟩ = some (.bool y) from fun w' h => ⟨(HB.out w' h).1, (HB.out w' h).2, h.cell' hg (fun e => e), h.cell' hgc (fun e => e)⟩)
              obtain ⟨d0, d1, g0, g1⟩ := HS2.out wr Hc3.out
              clear Hstep Hsp hy hg hgb hgl hgc hkR
              go_wp2_with fail
              refine wp_region_free (fun _ => true) (fun w' => w'.cell? ⟨w.heap.size + 1, 0, none⟩ = some (.slice ap P.length cp) ∧ w'.cell? ⟨w.heap.size + 1, 1, none⟩ = some (.slice al L.length cl) ∧ w'.cell? ⟨gr, kz, none⟩ = some (.slice (some ⟨g, 0, none⟩) N N) ∧ w'.cell? ⟨g, q, none⟩ = some (.bool y)) (by kernel_rfl) ⟨d0, d1, g0, g1⟩ (fun hHeld => ?_)
              refine wpAnyG_take (i := 0) (v := ?_) rfl (by kernel_rfl) (fun _ _ _ h => h) (Or.inl ⟨by rfl, ?_⟩) hHeld ?_
              rotate_left
              · intro w hSw; obtain ⟨d0, d1, g0, g1⟩ := hSw; go_simp; (try (with_reducible rfl))
              simp only [Act.put, List.setIfInBounds_toArray]
              refine wpAnyG_take (i := 1) (v := ?_) rfl (by kernel_rfl) (fun _ _ _ h => h) (Or.inl ⟨by rfl, ?_⟩) hHeld ?_
              rotate_left
              · intro w hSw; obtain ⟨d0, d1, g0, g1⟩ := hSw; go_simp; (try (with_reducible rfl))
              try simp only [Act.put]
              refine wpAnyG_take (i := 2) (v := ?_) rfl (by kernel_rfl) (fun _ _ _ h => h) (Or.inl ⟨by rfl, ?_⟩) hHeld ?_
              rotate_left
              · intro w hSw; obtain ⟨d0, d1, g0, g1⟩ := hSw; go_simp; (try (with_reducible rfl))
              try simp only [Act.put]
              refine wpAnyG_take (i := 3) (v := ?_) rfl (by kernel_rfl) (fun _ _ _ h => h) (Or.inl ⟨by rfl, ?_⟩) hHeld ?_
              rotate_left
              · intro w hSw; obtain ⟨d0, d1, g0, g1⟩ := hSw; go_simp; (try (with_reducible rfl))
              try simp only [Act.put]
              refine wpAnyG_take (i := 4) (v := ?_) rfl (by kernel_rfl) (fun _ _ _ h => h) (Or.inl ⟨by kernel_rfl, ?_⟩) hHeld ?_
              rotate_left
              · intro w hSw; obtain ⟨d0, d1, g0, g1⟩ := hSw; go_simp; (try (with_reducible rfl))
              try simp only [Act.put]
              refine wpAnyG_take (i := 5) (v := ?_) rfl (by kernel_rfl) (fun _ _ _ h => h) (Or.inl ⟨by kernel_rfl, ?_⟩) hHeld ?_
              rotate_left
              · intro w hSw; obtain ⟨d0, d1, g0, g1⟩ := hSw; go_simp; (try (with_reducible rfl))
              try simp only [Act.put]
              refine wpAnyG_ready (rs := [6]) (by kernel_rfl) (by simp) ?_
              refine AllReadyG.cons rfl (fun K hK => ?_) AllReadyG.nil
              rw [if_pos (by kernel_rfl)]
              go_simp
              (with_reducible refine (Hpn.out _).mono ?_)
              rintro e v3 ⟨rfl, hc5⟩
              have Hv3 : Hid (Chg Nob X v3) := (show Chg Nob X v3 from ((Hc3.out.drew)).trans1 hc5)
              clear hc5
              refine hK.out _ _ (fun _ => HS2.out _ Hv3.out) ?_
              clear hK K
              try simp only [Act.put]
              refine wpAnyG_take (i := 7) (v := ?_) rfl (by kernel_rfl) (fun _ _ _ h => h) (Or.inl ⟨by kernel_rfl, ?_⟩) (HS2.out _ Hv3.out) ?_
              rotate_left
              · intro w hSw; obtain ⟨d0, d1, g0, g1⟩ := hSw; go_simp; (try (with_reducible rfl))
              try simp only [Act.put]
              refine wpAnyG_take (i := 8) (v := ?_) rfl (by kernel_rfl) (fun _ _ _ h => h) (Or.inl ⟨by kernel_rfl, ?_⟩) (HS2.out _ Hv3.out) ?_
              rotate_left
              · intro w hSw; obtain ⟨d0, d1, g0, g1⟩ := hSw; go_simp; (try (with_reducible rfl))
              try simp only [Act.put]
              refine wpAnyG_take (i := 9) (v := ?_) rfl (by kernel_rfl) (fun _ _ _ h => h) (Or.inl ⟨by kernel_rfl, ?_⟩) (HS2.out _ Hv3.out) ?_
              rotate_left
              · intro w hSw; obtain ⟨d0, d1, g0, g1⟩ := hSw; go_simp; (try (with_reducible rfl))
              try simp only [Act.put]
              refine wpAnyG_done (by kernel_rfl) ?_ _
              go_simp
              clear hHeld d0 d1 g0 g1 HS2
              go_wp2_with fail
              go_roundw
              case rel => exact ⟨j + 1, y, sb, by go_num, rfl, rfl, by omega, H1, H2, Hv3⟩
              case measure => simp [intOf]; omega
          | false =>
            have H1 := fin (Or.inl rfl)
            have H2 := more _ k rfl rfl (by rw [H1.out]; rfl)
            clear fin more found
            go_wp2_with fail
            go_roundw
            case rel => exact ⟨k + 1, by go_num, by omega, H2, Hc3⟩
            case measure => simp [intOf]; omega
        · have hje : j = m.to.length := by omega
          have hji : ¬ (j : Int) < (m.to.length : Int) := by omega
          have hjd : decide ((j : Int) < (m.to.length : Int)) = false := decide_eq_false hji
          have hjn : decide (j < m.to.length) = false := decide_eq_false hjl
          have H1 := fin (Or.inr hje)
          cases fb with
          | false =>
            have H2 := more _ k rfl rfl (by rw [H1.out]; rfl)
            clear fin more found
            go_wp2_with fail
            go_roundw
            case rel => exact ⟨k + 1, by go_num, by omega, H2, Hc3⟩
            case measure => simp [intOf]; omega
          | true =>
            cases hso : (sb == own) with
            | false =>
              have H2 := more _ k rfl rfl (by rw [H1.out, hso]; rfl)
              clear fin more found
              go_wp2_with fail
              go_roundw
              case rel => exact ⟨k + 1, by go_num, by omega, H2, Hc3⟩
              case measure => simp [intOf]; omega
            | true =>
              have H2 := found (by rw [H1.out, hso]; rfl)
              clear fin more found
              go_wp2_with fail
              go_ret
              exact ⟨by rw [H2.out]; rfl, HcX.out.trans1 Hc3.out⟩
    · obtain rfl : k = s.moves.length := by omega
      have Hr : Hid (s.moves.any (stepM R (P ++ L) P.length n i own) = false) := (show _ = false by
        rw [List.any_eq_false]
        intro m hm
        obtain ⟨j, hj, rfl⟩ := List.mem_iff_getElem.1 hm
        rw [Hno.out j _ hj (List.getElem?_eq_getElem hj)]
        exact Bool.false_ne_true)
      go_wp2_with fail
      go_ret
      exact ⟨by rw [Hr.out]; rfl, HcX.out.trans1 Hc.out⟩
end
end Go.Proofs.YtkgfdgfhpdhhaaaGreat
namespace Go.Proofs.YtkgfdgfhpdhhaaaGreat
open Go.ChangeShapes Go.WideShapes Go.RowKit
attribute [local go_sem] Oper.semAt_some
structure RowsL (W Y : World) (gr ns : Nat) (gs : List Nat) (rows : List (List Bool)) (n : Nat) : Prop where
  chg : Chg Nob Y W
  above : Y.heap.size ≤ gr
  blk : ∃ cs : Array Value, W.heap[gr]? = some (.cells cs 34 (0, 0)) ∧ cs.size = ns ∧ ∀ (k g : Nat), gs[k]? = some g → cs[k]? = some (.slice (some ⟨g, 0, none⟩) n n)
  len : gs.length = rows.length
  row : ∀ (k g : Nat) (r : List Bool), gs[k]? = some g → rows[k]? = some r → BBlk W g r ∧ gr < g ∧ r.length = n
theorem RowsL.nob {W W' Y : World} {gr ns : Nat} {gs : List Nat} {rows : List (List Bool)} {n : Nat} (h : RowsL W Y gr ns gs rows n) (hc : Chg Nob W W') : RowsL W' Y gr ns gs rows n :=
  ⟨h.chg.trans1 hc, h.above, by obtain ⟨cs, a, b, c⟩ := h.blk; exact ⟨cs, hc.at a (fun e => e), b, c⟩, h.len, fun k g r h1 h2 => by
    obtain ⟨a, b, c⟩ := h.row k g r h1 h2
    exact ⟨a.chg hc (fun e => e), b, c⟩⟩
theorem RowsL.push {W Y : World} {gr ns : Nat} {gs : List Nat} {rows : List (List Bool)} {n g : Nat} {l : List Bool} (h : RowsL W Y gr ns gs rows n) (hlt : rows.length < ns) (hb : BBlk W g l) (hg : gr < g) (hl : l.length = n) :
    (∃ v, W.cell? ⟨gr, rows.length, none⟩ = some v) ∧ W.frozen? ⟨gr, rows.length, none⟩ = false ∧ RowsL (W.setCell ⟨gr, rows.length, none⟩ (.slice (some ⟨g, 0, none⟩) n n)) Y gr ns (gs ++ [g]) (rows ++ [l]) n := by
  obtain ⟨cs, a, b, c⟩ := h.blk
  have hlen := h.len
  have hab := h.above
  have hset : Chg (At1 gr) W (W.setCell ⟨gr, rows.length, none⟩ (.slice (some ⟨g, 0, none⟩) n n)) := (Chg.refl (At1 gr) W).setCell (p := ⟨gr, rows.length, none⟩) (fun _ => rfl) _
  have hlc : rows.length < cs.size := by omega
  refine ⟨⟨cs[rows.length], cell_row a _ (Array.getElem?_eq_getElem hlc)⟩, by simp [World.frozen?, a], ?_⟩
  refine ⟨h.chg.trans hset (fun i hi e => by have e : i = gr := e; omega), h.above, ⟨cs.setIfInBounds rows.length (.slice (some ⟨g, 0, none⟩) n n), ?_, by simp [b], ?_⟩, by simp [hlen], ?_⟩
  · simp [World.setCell, Array.getElem?_modify, a]
  · intro k g' hk
    by_cases e : k = rows.length
    · subst e
      rw [← hlen, List.getElem?_append_right (Nat.le_refl _), Nat.sub_self] at hk
      obtain rfl : g = g' := by simpa using hk
      simp [hlc]
    · have hk2 : k < gs.length := by
        have := (List.getElem?_eq_some_iff.1 hk).1
        rw [List.length_append] at this
        simp only [List.length_cons, List.length_nil] at this
        omega
      rw [List.getElem?_append_left hk2] at hk
      rw [Array.getElem?_setIfInBounds, if_neg (fun h => e h.symm)]
      exact c k g' hk
  · intro k g' r hk hr
    by_cases e : k = rows.length
    · subst e
      rw [← hlen, List.getElem?_append_right (Nat.le_refl _), Nat.sub_self] at hk
      obtain rfl : g = g' := by simpa using hk
      rw [List.getElem?_append_right (Nat.le_refl _), Nat.sub_self] at hr
      obtain rfl : l = r := by simpa using hr
      exact ⟨hb.chg hset (fun e => by have e : g = gr := e; omega), hg, hl⟩
    · have hk2 : k < gs.length := by
        have := (List.getElem?_eq_some_iff.1 hk).1
        rw [List.length_append] at this
        simp only [List.length_cons, List.length_nil] at this
        omega
      rw [List.getElem?_append_left hk2] at hk
      rw [List.getElem?_append_left (by omega)] at hr
      obtain ⟨x, y, z⟩ := h.row k g' r hk hr
      exact ⟨x.chg hset (fun e => by have e : g' = gr := e; omega), y, z⟩
theorem RowsL.put {W Y : World} {gr ns : Nat} {gs : List Nat} {rows : List (List Bool)} {n g : Nat} {l : List Bool} (h : RowsL W Y gr ns (gs ++ [g]) (rows ++ [l]) n) (hfresh : ∀ (k g' : Nat), gs[k]? = some g' → g' ≠ g) (j : Nat) (x : Bool) :
    RowsL (W.setCell ⟨g, j, none⟩ (.bool x)) Y gr ns (gs ++ [g]) (rows ++ [l.set j x]) n := by
  have hlen : gs.length = rows.length := by have := h.len; simpa using this
  have hab := h.above
  obtain ⟨hb, hg, hl⟩ := h.row rows.length g l (by rw [← hlen, List.getElem?_append_right (Nat.le_refl _), Nat.sub_self]; rfl) (by rw [List.getElem?_append_right (Nat.le_refl _), Nat.sub_self]; rfl)
  have hset : Chg (At1 g) W (W.setCell ⟨g, j, none⟩ (.bool x)) := (Chg.refl (At1 g) W).setCell (p := ⟨g, j, none⟩) (fun _ => rfl) _
  obtain ⟨cs, a, b, c⟩ := h.blk
  refine ⟨h.chg.trans hset (fun i hi e => by have e : i = g := e; omega), h.above, ⟨cs, hset.at a (fun e => by have e : gr = g := e; omega), b, c⟩, by simp [hlen], ?_⟩
  intro k g' r hk hr
  by_cases e : k = rows.length
  · subst e
    rw [← hlen, List.getElem?_append_right (Nat.le_refl _), Nat.sub_self] at hk
    obtain rfl : g = g' := by simpa using hk
    rw [List.getElem?_append_right (Nat.le_refl _), Nat.sub_self] at hr
    obtain rfl : l.set j x = r := by simpa using hr
    exact ⟨hb.set j x, hg, by rw [List.length_set]; exact hl⟩
  · have hk2 : k < gs.length := by
      have := (List.getElem?_eq_some_iff.1 hk).1
      rw [List.length_append] at this
      simp only [List.length_cons, List.length_nil] at this
      omega
    rw [List.getElem?_append_left (by omega)] at hr
    have hk3 := hk
    rw [List.getElem?_append_left hk2] at hk3
    obtain ⟨y1, y2, y3⟩ := h.row k g' r hk (by rw [List.getElem?_append_left (by omega)]; exact hr)
    exact ⟨y1.chg hset (fun e => hfresh k g' hk3 e), y2, y3⟩
theorem RowsL.rows {W Y : World} {gr ns : Nat} {gs : List Nat} {rows : List (List Bool)} {n : Nat} (h : RowsL W Y gr ns gs rows n) (hle : rows.length ≤ ns) : RowsW W gr ns gs rows n :=
  ⟨h.len, hle, fun k g r h1 h2 => by
    obtain ⟨cs, a, b, c⟩ := h.blk
    obtain ⟨x, y, z⟩ := h.row k g r h1 h2
    exact ⟨cell_row a k (c k g h1), x, z⟩⟩
theorem RowsL.init {W Y : World} {gr ns : Nat} {gs : List Nat} {rows : List (List Bool)} {n g : Nat} {l : List Bool} (h : RowsL W Y gr ns (gs ++ [g]) (rows ++ [l]) n) : RowsL W Y gr ns gs rows n := by
  have hlen : gs.length = rows.length := by have := h.len; simpa using this
  refine ⟨h.chg, h.above, ?_, hlen, fun k g' r h1 h2 => h.row k g' r (by rw [List.getElem?_append_left (List.getElem?_eq_some_iff.1 h1).1]; exact h1) (by rw [List.getElem?_append_left (List.getElem?_eq_some_iff.1 h2).1]; exact h2)⟩
  obtain ⟨cs, a, b, c⟩ := h.blk
  exact ⟨cs, a, b, fun k g' h1 => c k g' (by rw [List.getElem?_append_left (List.getElem?_eq_some_iff.1 h1).1]; exact h1)⟩
theorem RowsL.last {W Y : World} {gr ns : Nat} {gs : List Nat} {rows : List (List Bool)} {n g : Nat} {l : List Bool} (h : RowsL W Y gr ns (gs ++ [g]) (rows ++ [l]) n) : W.cell? ⟨gr, rows.length, none⟩ = some (.slice (some ⟨g, 0, none⟩) n n) ∧ BBlk W g l ∧ l.length = n := by
  have hlen : gs.length = rows.length := by have := h.len; simpa using this
  obtain ⟨cs, a, b, c⟩ := h.blk
  have h1 : (gs ++ [g])[rows.length]? = some g := by rw [← hlen, List.getElem?_append_right (Nat.le_refl _), Nat.sub_self]; rfl
  obtain ⟨x, y, z⟩ := h.row rows.length g l h1 (by rw [List.getElem?_append_right (Nat.le_refl _), Nat.sub_self]; rfl)
  exact ⟨cell_row a _ (c _ g h1), x, z⟩
theorem RowsL.over {Q : Nat → Prop} {W W' Y : World} {gr ns lim : Nat} {gs : List Nat} {rows : List (List Bool)} {n : Nat} (h : RowsL W Y gr ns gs rows n) (hc : Chg Q W W') (hq : ∀ q, Q q → lim ≤ q) (hgr : gr < lim) (hgs : ∀ (k g : Nat), gs[k]? = some g → g < lim) : RowsL W' Y gr ns gs rows n :=
  ⟨h.chg.trans hc (fun i hi e => by have h1 := hq i e; have h2 := h.above; omega), h.above, by obtain ⟨cs, a, b, c⟩ := h.blk; exact ⟨cs, hc.at a (fun e => by have h1 := hq _ e; omega), b, c⟩, h.len, fun k g r h1 h2 => by
    obtain ⟨a, b, c⟩ := h.row k g r h1 h2
    exact ⟨a.chg hc (fun e => by have h3 := hq _ e; have h4 := hgs k g h1; omega), b, c⟩⟩
def walkR (A B : List Bool) (b : Bool) (np n : Nat) : Nat → Nat → Bool
  | 0, p => A.getD p false || b
  | f + 1, p => if !(A.getD p false) && B.getD p false then walkR A B b np n f (nextN np n p) else A.getD p false
def leavesR (R : List (List Bool)) (ms : List Mvi) (M : List Int) (np n : Nat) (own : Bool) : List Bool := (List.range M.length).map fun i => stepB R ms M np n i own
def rowR (R : List (List Bool)) (s : Sti) (M : List Int) (np n : Nat) : List Bool := (List.range M.length).map fun i => walkR (leavesR R s.moves M np n false) (leavesR R s.moves M np n true) (!s.fin) np M.length (M.length + 1) i
def rowsR (S : List Sti) (M : List Int) (np : Nat) : Nat → List (List Bool)
  | 0 => []
  | m + 1 => rowsR S M np m ++ [rowR (rowsR S M np m) (S.getD m s0) M np m]
theorem rowsR_length (S : List Sti) (M : List Int) (np : Nat) : ∀ n, (rowsR S M np n).length = n
  | 0 => rfl
  | n + 1 => by rw [rowsR, List.length_append, rowsR_length S M np n]; rfl
theorem range_list {n : Nat} {f : Nat → Bool} {l : List Bool} (hl : l.length = n) (h : ∀ q, q < n → l[q]? = some (f q)) : l = (List.range n).map f := by
  refine List.ext_getElem? (fun q => ?_)
  rcases Nat.lt_or_ge q n with hq | hq
  · rw [h q hq, List.getElem?_map, List.getElem?_range hq]; rfl
  · rw [List.getElem?_eq_none_iff.2 (by omega), List.getElem?_eq_none_iff.2 (by rw [List.length_map, List.length_range]; omega)]
theorem set_list {n i : Nat} {f : Nat → Bool} {l : List Bool} (hl : l.length = n) (h : ∀ q, q < i → l[q]? = some (f q)) (hi : i < n) (x : Bool) (hx : x = f i) : (l.set i x).length = n ∧ ∀ q, q < i + 1 → (l.set i x)[q]? = some (f q) := by
  refine ⟨by rw [List.length_set]; exact hl, fun q hq => ?_⟩
  by_cases e : q = i
  · subst e; rw [List.getElem?_set_self (by omega), hx]
  · rw [List.getElem?_set_ne (Ne.symm e)]; exact h q (by omega)
end Go.Proofs.YtkgfdgfhpdhhaaaGreat
