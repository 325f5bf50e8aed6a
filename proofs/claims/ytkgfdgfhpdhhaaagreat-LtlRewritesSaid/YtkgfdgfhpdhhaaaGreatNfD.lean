/- ltl's normer: a formula's normal form (an and, an or, an until, a release, an implication). Conditions: the tree lies in the world; the normer does. -/
import Derived.Test.YtkgfdgfhpdhhaaaGreatNfA
import Derived.StillTailTactics
import Derived.Deep.RegionHeld3
namespace Go.Proofs.YtkgfdgfhpdhhaaaGreat
open Go.ChangeShapes Go.WideShapes Go.RowKit

set_option maxRecDepth 100000 in
set_option maxHeartbeats 8000000 in
theorem form_8 (t a b : T) (hkids : t.kids = [a, b]) (hfa : FormC a) (hfb : FormC b) (hkind : t.kind = 8) (R : Nat → Prop) (w : World) (nb L : Nat) (no : Bool) (v : Value) (ht : IsTree R w t v) (hR : ∀ b, R b → b ≠ nb) (hN : Nb w nb L) :
    Calls Tryz.prog 78 #[.pointer (some ⟨nb, 0, none⟩), v, .bool no] w (NfPost nb L (.node (flipK 8 no) [] [nfT a no, nfT b no]) w) := by
  obtain ⟨ao, cap, rfl, hlen, hk⟩ := ht.parts
  have hlen2 : t.kids.length = 2 := by rw [hkids]; rfl
  rw [hlen2, hkind] at ht ⊢
  have hW : Hid (∃ W, W = (w.alloc (.cells #[.int .i64 8, .string ⟨t.name.toArray⟩, .slice ao 2 cap] 24)).alloc (.cells #[.int .i64 0, .string ⟨#[]⟩, .slice none 0 0] 24) ∧ Chg Nob w W ∧ W.heap.size = w.heap.size + 2 ∧
      W.heap[w.heap.size]? = some (.cells #[.int .i64 8, .string ⟨t.name.toArray⟩, .slice ao 2 cap] 24 (0, 0)) ∧ W.heap[w.heap.size + 1]? = some (.cells #[.int .i64 0, .string ⟨#[]⟩, .slice none 0 0] 24 (0, 0))) := by
    refine ⟨_, rfl, ((Chg.refl _ _).alloc _).alloc _, by rw [World.size_alloc, World.size_alloc], ((Chg.refl Nob _).alloc _).at (heap_alloc_new w _) (fun e => e), ?_⟩
    have := heap_alloc_new (w.alloc (.cells #[.int .i64 8, .string ⟨t.name.toArray⟩, .slice ao 2 cap] 24)) (.cells #[.int .i64 0, .string ⟨#[]⟩, .slice none 0 0] 24)
    rwa [World.size_alloc] at this
  have Hfa := Lib.hid hfa
  have Hfb := Lib.hid hfb
  have hnb := hN.lt
  have HN := Lib.hid hN
  have Ht := Lib.hid ht
  have Hkids := Lib.hid hkids
  clear ht hk hkids hN hlen2 hkind hlen hfa hfb
  obtain ⟨W, hWe, hcW, hsW, hbx, hres⟩ := hW.out
  subst hWe
  clear hW
  have Hbx := Lib.hid hbx
  have Hres := Lib.hid hres
  have HsW := Lib.hid hsW
  clear hbx hres hsW
  go_enter Tryz.func78, Tryz.ntmps78
  go_wp2_with fail
  generalize (w.alloc (.cells #[.int .i64 8, .string ⟨t.name.toArray⟩, .slice ao 2 cap] 24)).alloc (.cells #[.int .i64 0, .string ⟨#[]⟩, .slice none 0 0] 24) = W at *
  obtain ⟨c0, c1, c2, _⟩ := cells_three Hbx.out
  refine wp_region_still_tail 8 (by kernel_rfl) (by kernel_rfl) ?_
  simp only [List.take_succ_cons, List.take_zero, List.drop_succ_cons, List.drop_zero]
  repeat still_step
  still_call (flip_still 8 no _)
  repeat still_step
  refine wpStill_nil ?_
  change wpList _ _ _ _ _ (World.drew (W))
  replace hcW := hcW.drew
  replace Hres := hid_drew Hres
  replace HsW := hid_drew_size HsW
  clear c0 c1 c2
  go_wp2_with fail
  generalize W.drew = V at *
  (with_reducible refine (pair_any t a b Hkids.out Hfa.out Hfb.out R _ nb L (flipK 8 no) no no _ (Ht.out.nob hcW) hR (HN.out.nob hcW)).mono ?_)
  rintro e w1 ⟨hc1, ⟨va, hsa, rfl, hFa, hN1⟩ | ⟨hsa, rfl⟩⟩
  · obtain ⟨a5, acap, rfl⟩ := hFa.agg
    obtain ⟨na, hna⟩ : ∃ na : T, na = .node (flipK 8 no) [] [nfT a no, nfT b no] := ⟨_, rfl⟩
    rw [← hna] at hsa hFa hN1 ⊢
    have Hna := Lib.hid hna
    clear hna
    have hsW := HsW.out
    have hres6 := hc1.at Hres.out (fun e => by have e : w.heap.size + 1 = nb := e; omega)
    have Hpost := Lib.hid (show NfPost nb L (.node (flipK 8 no) [] [nfT a no, nfT b no]) w (.returned (.agg #[.int .i64 na.kind, .string ⟨na.name.toArray⟩, .slice a5 na.kids.length acap])) _ by rw [← Hna.out]; exact nf_end (M := _) (u := na) (a0 := .int .i64 na.kind) (a1 := .string ⟨na.name.toArray⟩) (a2 := .slice a5 na.kids.length acap) hnb (hcW.any.trans1 hc1) hres6 (hsW ▸ hFa) (hsa) (rfl) hN1)
    obtain ⟨c0, c1, c2, f0, f1, f2⟩ := cells_three hres6
    have hb7 := block_three_all hres6 (.int .i64 na.kind) (.string ⟨na.name.toArray⟩) (.slice a5 na.kids.length acap)
    obtain ⟨e0, e1, e2, _⟩ := cells_three hb7
    have He := Lib.hid (And.intro e0 (And.intro e1 e2))
    clear hb7 hres6 e0 e1 e2 hsW
    go_wp2
    obtain ⟨e0, e1, e2⟩ := He.out
    exact bodyPost_ret (v := .agg #[.int .i64 na.kind, .string ⟨na.name.toArray⟩, .slice a5 na.kids.length acap]) (by simp [results, Tryz.results78, go_sem, e0, e1, e2]) rfl Hpost.out
  · go_wp2
    exact ⟨rfl, hcW.any.trans1 hc1, .inr ⟨hsa, rfl⟩⟩
set_option maxRecDepth 100000 in
set_option maxHeartbeats 8000000 in
theorem form_9 (t a b : T) (hkids : t.kids = [a, b]) (hfa : FormC a) (hfb : FormC b) (hkind : t.kind = 9) (R : Nat → Prop) (w : World) (nb L : Nat) (no : Bool) (v : Value) (ht : IsTree R w t v) (hR : ∀ b, R b → b ≠ nb) (hN : Nb w nb L) :
    Calls Tryz.prog 78 #[.pointer (some ⟨nb, 0, none⟩), v, .bool no] w (NfPost nb L (.node (flipK 9 no) [] [nfT a no, nfT b no]) w) := by
  obtain ⟨ao, cap, rfl, hlen, hk⟩ := ht.parts
  have hlen2 : t.kids.length = 2 := by rw [hkids]; rfl
  rw [hlen2, hkind] at ht ⊢
  have hW : Hid (∃ W, W = (w.alloc (.cells #[.int .i64 9, .string ⟨t.name.toArray⟩, .slice ao 2 cap] 24)).alloc (.cells #[.int .i64 0, .string ⟨#[]⟩, .slice none 0 0] 24) ∧ Chg Nob w W ∧ W.heap.size = w.heap.size + 2 ∧
      W.heap[w.heap.size]? = some (.cells #[.int .i64 9, .string ⟨t.name.toArray⟩, .slice ao 2 cap] 24 (0, 0)) ∧ W.heap[w.heap.size + 1]? = some (.cells #[.int .i64 0, .string ⟨#[]⟩, .slice none 0 0] 24 (0, 0))) := by
    refine ⟨_, rfl, ((Chg.refl _ _).alloc _).alloc _, by rw [World.size_alloc, World.size_alloc], ((Chg.refl Nob _).alloc _).at (heap_alloc_new w _) (fun e => e), ?_⟩
    have := heap_alloc_new (w.alloc (.cells #[.int .i64 9, .string ⟨t.name.toArray⟩, .slice ao 2 cap] 24)) (.cells #[.int .i64 0, .string ⟨#[]⟩, .slice none 0 0] 24)
    rwa [World.size_alloc] at this
  have Hfa := Lib.hid hfa
  have Hfb := Lib.hid hfb
  have hnb := hN.lt
  have HN := Lib.hid hN
  have Ht := Lib.hid ht
  have Hkids := Lib.hid hkids
  clear ht hk hkids hN hlen2 hkind hlen hfa hfb
  obtain ⟨W, hWe, hcW, hsW, hbx, hres⟩ := hW.out
  subst hWe
  clear hW
  have Hbx := Lib.hid hbx
  have Hres := Lib.hid hres
  have HsW := Lib.hid hsW
  clear hbx hres hsW
  go_enter Tryz.func78, Tryz.ntmps78
  go_wp2_with fail
  generalize (w.alloc (.cells #[.int .i64 9, .string ⟨t.name.toArray⟩, .slice ao 2 cap] 24)).alloc (.cells #[.int .i64 0, .string ⟨#[]⟩, .slice none 0 0] 24) = W at *
  obtain ⟨c0, c1, c2, _⟩ := cells_three Hbx.out
  refine wp_region_still_tail 8 (by kernel_rfl) (by kernel_rfl) ?_
  simp only [List.take_succ_cons, List.take_zero, List.drop_succ_cons, List.drop_zero]
  repeat still_step
  still_call (flip_still 9 no _)
  repeat still_step
  refine wpStill_nil ?_
  change wpList _ _ _ _ _ (World.drew (W))
  replace hcW := hcW.drew
  replace Hres := hid_drew Hres
  replace HsW := hid_drew_size HsW
  clear c0 c1 c2
  go_wp2_with fail
  generalize W.drew = V at *
  (with_reducible refine (pair_any t a b Hkids.out Hfa.out Hfb.out R _ nb L (flipK 9 no) no no _ (Ht.out.nob hcW) hR (HN.out.nob hcW)).mono ?_)
  rintro e w1 ⟨hc1, ⟨va, hsa, rfl, hFa, hN1⟩ | ⟨hsa, rfl⟩⟩
  · obtain ⟨a5, acap, rfl⟩ := hFa.agg
    obtain ⟨na, hna⟩ : ∃ na : T, na = .node (flipK 9 no) [] [nfT a no, nfT b no] := ⟨_, rfl⟩
    rw [← hna] at hsa hFa hN1 ⊢
    have Hna := Lib.hid hna
    clear hna
    have hsW := HsW.out
    have hres6 := hc1.at Hres.out (fun e => by have e : w.heap.size + 1 = nb := e; omega)
    have Hpost := Lib.hid (show NfPost nb L (.node (flipK 9 no) [] [nfT a no, nfT b no]) w (.returned (.agg #[.int .i64 na.kind, .string ⟨na.name.toArray⟩, .slice a5 na.kids.length acap])) _ by rw [← Hna.out]; exact nf_end (M := _) (u := na) (a0 := .int .i64 na.kind) (a1 := .string ⟨na.name.toArray⟩) (a2 := .slice a5 na.kids.length acap) hnb (hcW.any.trans1 hc1) hres6 (hsW ▸ hFa) (hsa) (rfl) hN1)
    obtain ⟨c0, c1, c2, f0, f1, f2⟩ := cells_three hres6
    have hb7 := block_three_all hres6 (.int .i64 na.kind) (.string ⟨na.name.toArray⟩) (.slice a5 na.kids.length acap)
    obtain ⟨e0, e1, e2, _⟩ := cells_three hb7
    have He := Lib.hid (And.intro e0 (And.intro e1 e2))
    clear hb7 hres6 e0 e1 e2 hsW
    go_wp2
    obtain ⟨e0, e1, e2⟩ := He.out
    exact bodyPost_ret (v := .agg #[.int .i64 na.kind, .string ⟨na.name.toArray⟩, .slice a5 na.kids.length acap]) (by simp [results, Tryz.results78, go_sem, e0, e1, e2]) rfl Hpost.out
  · go_wp2
    exact ⟨rfl, hcW.any.trans1 hc1, .inr ⟨hsa, rfl⟩⟩
set_option maxRecDepth 100000 in
set_option maxHeartbeats 8000000 in
theorem form_12 (t a b : T) (hkids : t.kids = [a, b]) (hfa : FormC a) (hfb : FormC b) (hkind : t.kind = 12) (R : Nat → Prop) (w : World) (nb L : Nat) (no : Bool) (v : Value) (ht : IsTree R w t v) (hR : ∀ b, R b → b ≠ nb) (hN : Nb w nb L) :
    Calls Tryz.prog 78 #[.pointer (some ⟨nb, 0, none⟩), v, .bool no] w (NfPost nb L (.node (flipK 12 no) [] [nfT a no, nfT b no]) w) := by
  obtain ⟨ao, cap, rfl, hlen, hk⟩ := ht.parts
  have hlen2 : t.kids.length = 2 := by rw [hkids]; rfl
  rw [hlen2, hkind] at ht ⊢
  have hW : Hid (∃ W, W = (w.alloc (.cells #[.int .i64 12, .string ⟨t.name.toArray⟩, .slice ao 2 cap] 24)).alloc (.cells #[.int .i64 0, .string ⟨#[]⟩, .slice none 0 0] 24) ∧ Chg Nob w W ∧ W.heap.size = w.heap.size + 2 ∧
      W.heap[w.heap.size]? = some (.cells #[.int .i64 12, .string ⟨t.name.toArray⟩, .slice ao 2 cap] 24 (0, 0)) ∧ W.heap[w.heap.size + 1]? = some (.cells #[.int .i64 0, .string ⟨#[]⟩, .slice none 0 0] 24 (0, 0))) := by
    refine ⟨_, rfl, ((Chg.refl _ _).alloc _).alloc _, by rw [World.size_alloc, World.size_alloc], ((Chg.refl Nob _).alloc _).at (heap_alloc_new w _) (fun e => e), ?_⟩
    have := heap_alloc_new (w.alloc (.cells #[.int .i64 12, .string ⟨t.name.toArray⟩, .slice ao 2 cap] 24)) (.cells #[.int .i64 0, .string ⟨#[]⟩, .slice none 0 0] 24)
    rwa [World.size_alloc] at this
  have Hfa := Lib.hid hfa
  have Hfb := Lib.hid hfb
  have hnb := hN.lt
  have HN := Lib.hid hN
  have Ht := Lib.hid ht
  have Hkids := Lib.hid hkids
  clear ht hk hkids hN hlen2 hkind hlen hfa hfb
  obtain ⟨W, hWe, hcW, hsW, hbx, hres⟩ := hW.out
  subst hWe
  clear hW
  have Hbx := Lib.hid hbx
  have Hres := Lib.hid hres
  have HsW := Lib.hid hsW
  clear hbx hres hsW
  go_enter Tryz.func78, Tryz.ntmps78
  go_wp2_with fail
  generalize (w.alloc (.cells #[.int .i64 12, .string ⟨t.name.toArray⟩, .slice ao 2 cap] 24)).alloc (.cells #[.int .i64 0, .string ⟨#[]⟩, .slice none 0 0] 24) = W at *
  obtain ⟨c0, c1, c2, _⟩ := cells_three Hbx.out
  refine wp_region_still_tail 8 (by kernel_rfl) (by kernel_rfl) ?_
  simp only [List.take_succ_cons, List.take_zero, List.drop_succ_cons, List.drop_zero]
  repeat still_step
  still_call (flip_still 12 no _)
  repeat still_step
  refine wpStill_nil ?_
  change wpList _ _ _ _ _ (World.drew (W))
  replace hcW := hcW.drew
  replace Hres := hid_drew Hres
  replace HsW := hid_drew_size HsW
  clear c0 c1 c2
  go_wp2_with fail
  generalize W.drew = V at *
  (with_reducible refine (pair_any t a b Hkids.out Hfa.out Hfb.out R _ nb L (flipK 12 no) no no _ (Ht.out.nob hcW) hR (HN.out.nob hcW)).mono ?_)
  rintro e w1 ⟨hc1, ⟨va, hsa, rfl, hFa, hN1⟩ | ⟨hsa, rfl⟩⟩
  · obtain ⟨a5, acap, rfl⟩ := hFa.agg
    obtain ⟨na, hna⟩ : ∃ na : T, na = .node (flipK 12 no) [] [nfT a no, nfT b no] := ⟨_, rfl⟩
    rw [← hna] at hsa hFa hN1 ⊢
    have Hna := Lib.hid hna
    clear hna
    have hsW := HsW.out
    have hres6 := hc1.at Hres.out (fun e => by have e : w.heap.size + 1 = nb := e; omega)
    have Hpost := Lib.hid (show NfPost nb L (.node (flipK 12 no) [] [nfT a no, nfT b no]) w (.returned (.agg #[.int .i64 na.kind, .string ⟨na.name.toArray⟩, .slice a5 na.kids.length acap])) _ by rw [← Hna.out]; exact nf_end (M := _) (u := na) (a0 := .int .i64 na.kind) (a1 := .string ⟨na.name.toArray⟩) (a2 := .slice a5 na.kids.length acap) hnb (hcW.any.trans1 hc1) hres6 (hsW ▸ hFa) (hsa) (rfl) hN1)
    obtain ⟨c0, c1, c2, f0, f1, f2⟩ := cells_three hres6
    have hb7 := block_three_all hres6 (.int .i64 na.kind) (.string ⟨na.name.toArray⟩) (.slice a5 na.kids.length acap)
    obtain ⟨e0, e1, e2, _⟩ := cells_three hb7
    have He := Lib.hid (And.intro e0 (And.intro e1 e2))
    clear hb7 hres6 e0 e1 e2 hsW
    go_wp2
    obtain ⟨e0, e1, e2⟩ := He.out
    exact bodyPost_ret (v := .agg #[.int .i64 na.kind, .string ⟨na.name.toArray⟩, .slice a5 na.kids.length acap]) (by simp [results, Tryz.results78, go_sem, e0, e1, e2]) rfl Hpost.out
  · go_wp2
    exact ⟨rfl, hcW.any.trans1 hc1, .inr ⟨hsa, rfl⟩⟩
set_option maxRecDepth 100000 in
set_option maxHeartbeats 8000000 in
theorem form_13 (t a b : T) (hkids : t.kids = [a, b]) (hfa : FormC a) (hfb : FormC b) (hkind : t.kind = 13) (R : Nat → Prop) (w : World) (nb L : Nat) (no : Bool) (v : Value) (ht : IsTree R w t v) (hR : ∀ b, R b → b ≠ nb) (hN : Nb w nb L) :
    Calls Tryz.prog 78 #[.pointer (some ⟨nb, 0, none⟩), v, .bool no] w (NfPost nb L (.node (flipK 13 no) [] [nfT a no, nfT b no]) w) := by
  obtain ⟨ao, cap, rfl, hlen, hk⟩ := ht.parts
  have hlen2 : t.kids.length = 2 := by rw [hkids]; rfl
  rw [hlen2, hkind] at ht ⊢
  have hW : Hid (∃ W, W = (w.alloc (.cells #[.int .i64 13, .string ⟨t.name.toArray⟩, .slice ao 2 cap] 24)).alloc (.cells #[.int .i64 0, .string ⟨#[]⟩, .slice none 0 0] 24) ∧ Chg Nob w W ∧ W.heap.size = w.heap.size + 2 ∧
      W.heap[w.heap.size]? = some (.cells #[.int .i64 13, .string ⟨t.name.toArray⟩, .slice ao 2 cap] 24 (0, 0)) ∧ W.heap[w.heap.size + 1]? = some (.cells #[.int .i64 0, .string ⟨#[]⟩, .slice none 0 0] 24 (0, 0))) := by
    refine ⟨_, rfl, ((Chg.refl _ _).alloc _).alloc _, by rw [World.size_alloc, World.size_alloc], ((Chg.refl Nob _).alloc _).at (heap_alloc_new w _) (fun e => e), ?_⟩
    have := heap_alloc_new (w.alloc (.cells #[.int .i64 13, .string ⟨t.name.toArray⟩, .slice ao 2 cap] 24)) (.cells #[.int .i64 0, .string ⟨#[]⟩, .slice none 0 0] 24)
    rwa [World.size_alloc] at this
  have Hfa := Lib.hid hfa
  have Hfb := Lib.hid hfb
  have hnb := hN.lt
  have HN := Lib.hid hN
  have Ht := Lib.hid ht
  have Hkids := Lib.hid hkids
  clear ht hk hkids hN hlen2 hkind hlen hfa hfb
  obtain ⟨W, hWe, hcW, hsW, hbx, hres⟩ := hW.out
  subst hWe
  clear hW
  have Hbx := Lib.hid hbx
  have Hres := Lib.hid hres
  have HsW := Lib.hid hsW
  clear hbx hres hsW
  go_enter Tryz.func78, Tryz.ntmps78
  go_wp2_with fail
  generalize (w.alloc (.cells #[.int .i64 13, .string ⟨t.name.toArray⟩, .slice ao 2 cap] 24)).alloc (.cells #[.int .i64 0, .string ⟨#[]⟩, .slice none 0 0] 24) = W at *
  obtain ⟨c0, c1, c2, _⟩ := cells_three Hbx.out
  refine wp_region_still_tail 8 (by kernel_rfl) (by kernel_rfl) ?_
  simp only [List.take_succ_cons, List.take_zero, List.drop_succ_cons, List.drop_zero]
  repeat still_step
  still_call (flip_still 13 no _)
  repeat still_step
  refine wpStill_nil ?_
  change wpList _ _ _ _ _ (World.drew (W))
  replace hcW := hcW.drew
  replace Hres := hid_drew Hres
  replace HsW := hid_drew_size HsW
  clear c0 c1 c2
  go_wp2_with fail
  generalize W.drew = V at *
  (with_reducible refine (pair_any t a b Hkids.out Hfa.out Hfb.out R _ nb L (flipK 13 no) no no _ (Ht.out.nob hcW) hR (HN.out.nob hcW)).mono ?_)
  rintro e w1 ⟨hc1, ⟨va, hsa, rfl, hFa, hN1⟩ | ⟨hsa, rfl⟩⟩
  · obtain ⟨a5, acap, rfl⟩ := hFa.agg
    obtain ⟨na, hna⟩ : ∃ na : T, na = .node (flipK 13 no) [] [nfT a no, nfT b no] := ⟨_, rfl⟩
    rw [← hna] at hsa hFa hN1 ⊢
    have Hna := Lib.hid hna
    clear hna
    have hsW := HsW.out
    have hres6 := hc1.at Hres.out (fun e => by have e : w.heap.size + 1 = nb := e; omega)
    have Hpost := Lib.hid (show NfPost nb L (.node (flipK 13 no) [] [nfT a no, nfT b no]) w (.returned (.agg #[.int .i64 na.kind, .string ⟨na.name.toArray⟩, .slice a5 na.kids.length acap])) _ by rw [← Hna.out]; exact nf_end (M := _) (u := na) (a0 := .int .i64 na.kind) (a1 := .string ⟨na.name.toArray⟩) (a2 := .slice a5 na.kids.length acap) hnb (hcW.any.trans1 hc1) hres6 (hsW ▸ hFa) (hsa) (rfl) hN1)
    obtain ⟨c0, c1, c2, f0, f1, f2⟩ := cells_three hres6
    have hb7 := block_three_all hres6 (.int .i64 na.kind) (.string ⟨na.name.toArray⟩) (.slice a5 na.kids.length acap)
    obtain ⟨e0, e1, e2, _⟩ := cells_three hb7
    have He := Lib.hid (And.intro e0 (And.intro e1 e2))
    clear hb7 hres6 e0 e1 e2 hsW
    go_wp2
    obtain ⟨e0, e1, e2⟩ := He.out
    exact bodyPost_ret (v := .agg #[.int .i64 na.kind, .string ⟨na.name.toArray⟩, .slice a5 na.kids.length acap]) (by simp [results, Tryz.results78, go_sem, e0, e1, e2]) rfl Hpost.out
  · go_wp2
    exact ⟨rfl, hcW.any.trans1 hc1, .inr ⟨hsa, rfl⟩⟩
set_option maxRecDepth 100000 in
set_option maxHeartbeats 8000000 in
theorem form_10 (t a b : T) (hkids : t.kids = [a, b]) (hfa : FormC a) (hfb : FormC b) (hkind : t.kind = 10) (R : Nat → Prop) (w : World) (nb L : Nat) (no : Bool) (v : Value) (ht : IsTree R w t v) (hR : ∀ b, R b → b ≠ nb) (hN : Nb w nb L) :
    Calls Tryz.prog 78 #[.pointer (some ⟨nb, 0, none⟩), v, .bool no] w (NfPost nb L (.node (flipK 9 no) [] [nfT a (!no), nfT b no]) w) := by
  obtain ⟨ao, cap, rfl, hlen, hk⟩ := ht.parts
  have hlen2 : t.kids.length = 2 := by rw [hkids]; rfl
  rw [hlen2, hkind] at ht ⊢
  have hW : Hid (∃ W, W = (w.alloc (.cells #[.int .i64 10, .string ⟨t.name.toArray⟩, .slice ao 2 cap] 24)).alloc (.cells #[.int .i64 0, .string ⟨#[]⟩, .slice none 0 0] 24) ∧ Chg Nob w W ∧ W.heap.size = w.heap.size + 2 ∧
      W.heap[w.heap.size]? = some (.cells #[.int .i64 10, .string ⟨t.name.toArray⟩, .slice ao 2 cap] 24 (0, 0)) ∧ W.heap[w.heap.size + 1]? = some (.cells #[.int .i64 0, .string ⟨#[]⟩, .slice none 0 0] 24 (0, 0))) := by
    refine ⟨_, rfl, ((Chg.refl _ _).alloc _).alloc _, by rw [World.size_alloc, World.size_alloc], ((Chg.refl Nob _).alloc _).at (heap_alloc_new w _) (fun e => e), ?_⟩
    have := heap_alloc_new (w.alloc (.cells #[.int .i64 10, .string ⟨t.name.toArray⟩, .slice ao 2 cap] 24)) (.cells #[.int .i64 0, .string ⟨#[]⟩, .slice none 0 0] 24)
    rwa [World.size_alloc] at this
  have Hfa := Lib.hid hfa
  have Hfb := Lib.hid hfb
  have hnb := hN.lt
  have HN := Lib.hid hN
  have Ht := Lib.hid ht
  have Hkids := Lib.hid hkids
  clear ht hk hkids hN hlen2 hkind hlen hfa hfb
  obtain ⟨W, hWe, hcW, hsW, hbx, hres⟩ := hW.out
  subst hWe
  clear hW
  have Hbx := Lib.hid hbx
  have Hres := Lib.hid hres
  have HsW := Lib.hid hsW
  clear hbx hres hsW
  go_enter Tryz.func78, Tryz.ntmps78
  go_wp2_with fail
  generalize (w.alloc (.cells #[.int .i64 10, .string ⟨t.name.toArray⟩, .slice ao 2 cap] 24)).alloc (.cells #[.int .i64 0, .string ⟨#[]⟩, .slice none 0 0] 24) = W at *
  obtain ⟨c0, c1, c2, _⟩ := cells_three Hbx.out
  refine wp_region_still_tail 7 (by kernel_rfl) (by kernel_rfl) ?_
  simp only [List.take_succ_cons, List.take_zero, List.drop_succ_cons, List.drop_zero]
  repeat still_step
  still_call (flip_still 9 no _)
  repeat still_step
  refine wpStill_nil ?_
  change wpList _ _ _ _ _ (World.drew (W))
  replace hcW := hcW.drew
  replace Hres := hid_drew Hres
  replace HsW := hid_drew_size HsW
  clear c0 c1 c2
  go_wp2_with fail
  generalize W.drew = V at *
  (with_reducible refine (pair_any t a b Hkids.out Hfa.out Hfb.out R _ nb L (flipK 9 no) (!no) no _ (Ht.out.nob hcW) hR (HN.out.nob hcW)).mono ?_)
  rintro e w1 ⟨hc1, ⟨va, hsa, rfl, hFa, hN1⟩ | ⟨hsa, rfl⟩⟩
  · obtain ⟨a5, acap, rfl⟩ := hFa.agg
    obtain ⟨na, hna⟩ : ∃ na : T, na = .node (flipK 9 no) [] [nfT a (!no), nfT b no] := ⟨_, rfl⟩
    rw [← hna] at hsa hFa hN1 ⊢
    have Hna := Lib.hid hna
    clear hna
    have hsW := HsW.out
    have hres6 := hc1.at Hres.out (fun e => by have e : w.heap.size + 1 = nb := e; omega)
    have Hpost := Lib.hid (show NfPost nb L (.node (flipK 9 no) [] [nfT a (!no), nfT b no]) w (.returned (.agg #[.int .i64 na.kind, .string ⟨na.name.toArray⟩, .slice a5 na.kids.length acap])) _ by rw [← Hna.out]; exact nf_end (M := _) (u := na) (a0 := .int .i64 na.kind) (a1 := .string ⟨na.name.toArray⟩) (a2 := .slice a5 na.kids.length acap) hnb (hcW.any.trans1 hc1) hres6 (hsW ▸ hFa) (hsa) (rfl) hN1)
    obtain ⟨c0, c1, c2, f0, f1, f2⟩ := cells_three hres6
    have hb7 := block_three_all hres6 (.int .i64 na.kind) (.string ⟨na.name.toArray⟩) (.slice a5 na.kids.length acap)
    obtain ⟨e0, e1, e2, _⟩ := cells_three hb7
    have He := Lib.hid (And.intro e0 (And.intro e1 e2))
    clear hb7 hres6 e0 e1 e2 hsW
    go_wp2
    obtain ⟨e0, e1, e2⟩ := He.out
    exact bodyPost_ret (v := .agg #[.int .i64 na.kind, .string ⟨na.name.toArray⟩, .slice a5 na.kids.length acap]) (by simp [results, Tryz.results78, go_sem, e0, e1, e2]) rfl Hpost.out
  · go_wp2
    exact ⟨rfl, hcW.any.trans1 hc1, .inr ⟨hsa, rfl⟩⟩
end Go.Proofs.YtkgfdgfhpdhhaaaGreat
