/- ltl's normer: a part, the opposite of a kind, a pair. Conditions: it lies in the world. -/
import Derived.Test.YtkgfdgfhpdhhaaaGreatText
import Derived.Test.YtkgfdgfhpdhhaaaGreatLev
namespace Go.Proofs.YtkgfdgfhpdhhaaaGreat
open Go.ChangeShapes Go.WideShapes Go.RowKit

/-- What is thrown where a formula grows too great. -/
def much : List PanicEntry := [{ v := .iface 132 (.agg #[]), recovered := false }]
/-- A normer: so many parts may still come. -/
structure Nb (w : World) (nb L : Nat) : Prop where
  blk : w.heap[nb]? = some (.cells #[.int .i64 (L : Int)] 136 (0, 0))
  le : L ≤ 20000
theorem Nb.nob {w w' : World} {nb L : Nat} (h : Nb w nb L) (hc : Chg Nob w w') : Nb w' nb L := ⟨hc.at h.blk (fun e => e), h.le⟩
theorem Nb.lt {w : World} {nb L : Nat} (h : Nb w nb L) : nb < w.heap.size := (Array.getElem?_eq_some_iff.1 h.blk).1
theorem Nb.at1 {w w' : World} {nb L b : Nat} (h : Nb w nb L) (hc : Chg (At1 b) w w') (hb : nb ≠ b) : Nb w' nb L := ⟨hc.at h.blk hb, h.le⟩

theorem ret_int' {a b : Int} (h : a = b) : Ending.returned (Value.int .i64 a) = Ending.returned (Value.int .i64 b) := by rw [h]
set_option maxHeartbeats 1000000 in
theorem flip_any (k : Int) (no : Bool) (w : World) : Calls Tryz.prog 131 #[.int .i64 k, .bool no] w (Rets (.int .i64 (flipK k no)) w) := by
  cases no
  · go_enter Tryz.func131, Tryz.ntmps131
    go_wp2
    all_goals go_ret
    all_goals exact ⟨rfl, rfl⟩
  · go_enter Tryz.func131, Tryz.ntmps131
    go_wp2
    all_goals go_ret
    all_goals (refine ⟨ret_int' ?_, rfl⟩; unfold flipK; rw [if_neg (by decide)]; simp_all)

def NpPost (nb L : Nat) (v : Value) (w : World) (e : Ending) (w' : World) : Prop := Chg (At1 nb) w w' ∧ ((∃ m, L = m + 1 ∧ e = .returned v ∧ Nb w' nb m) ∨ (L = 0 ∧ e = .panicked much))
set_option maxHeartbeats 1000000 in
theorem npart_any (w : World) (nb L : Nat) (k : Int) (ao : Option Addr) (n c : Nat) (h : Nb w nb L) : Calls Tryz.prog 130 #[.pointer (some ⟨nb, 0, none⟩), .int .i64 k, .slice ao n c] w (NpPost nb L (.agg #[.int .i64 k, .string ⟨#[]⟩, .slice ao n c]) w) := by
  have hlt := h.lt
  have hle := h.le
  have hA := ((Chg.refl Nob w).alloc (.cells #[.int .i64 0, .string ⟨#[]⟩, .slice none 0 0] 24)).at h.blk (fun e => e)
  have hnew := heap_alloc_new w (.cells #[.int .i64 0, .string ⟨#[]⟩, .slice none 0 0] 24)
  have hcA : Chg Nob w (w.alloc (.cells #[.int .i64 0, .string ⟨#[]⟩, .slice none 0 0] 24)) := (Chg.refl _ _).alloc _
  have c0 := cell_row hA 0 (v := .int .i64 (L : Int)) rfl
  have f0 : (w.alloc (.cells #[.int .i64 0, .string ⟨#[]⟩, .slice none 0 0] 24)).frozen? ⟨nb, 0, none⟩ = false := by simp [World.frozen?, hA]
  have HA := Lib.hid hA
  have HB := Lib.hid h.blk
  have Hnew := Lib.hid hnew
  clear hA hnew h
  have hset : ∀ z : Int, ((w.setCell ⟨nb, 0, none⟩ (.int .i64 z)).alloc (.cells #[.int .i64 0, .string ⟨#[]⟩, .slice none 0 0] 24)).heap[nb]? = some (.cells #[.int .i64 z] 136 (0, 0)) := fun z =>
    ((Chg.refl Nob _).alloc _).at (block_one_set HB.out) (fun e => e)
  have hcs : ∀ (z : Int) (o : Obj), Chg (At1 nb) w ((w.setCell ⟨nb, 0, none⟩ (.int .i64 z)).alloc o) := fun z o => ((Chg.refl (At1 nb) w).setCell (p := ⟨nb, 0, none⟩) (fun _ => rfl) _).alloc _
  have Hset := Lib.hid hset
  have Hcs := Lib.hid hcs
  clear hset hcs
  cases L with
  | zero =>
    have c1 := cell_row (Hset.out (-1)) 0 (v := .int .i64 (-1)) rfl
    go_enter Tryz.func130, Tryz.ntmps130
    go_wp2
    exact ⟨rfl, Hcs.out _ _, .inr ⟨rfl, rfl⟩⟩
  | succ m =>
    have c1 := cell_row (Hset.out (m : Int)) 0 (v := .int .i64 (m : Int)) rfl
    have hm0 : ¬ (m : Int) < 0 := by omega
    go_enter Tryz.func130, Tryz.ntmps130
    go_wp2
    obtain ⟨e0, e1, e2, _⟩ := cells_three (heap_alloc_new (w.setCell ⟨nb, 0, none⟩ (.int .i64 (m : Int))) (.cells #[.int .i64 k, .string ⟨#[]⟩, .slice ao n c] 24))
    have hsz : (w.setCell ⟨nb, 0, none⟩ (.int .i64 (m : Int))).heap.size = w.heap.size := by simp [World.setCell]
    rw [hsz] at e0 e1 e2
    refine bodyPost_ret (v := .agg #[.int .i64 k, .string ⟨#[]⟩, .slice ao n c]) (by simp [results, Tryz.results130, go_sem, e0, e1, e2]) rfl ⟨Hcs.out _ _, .inl ⟨m, rfl, rfl, ⟨?_, by omega⟩⟩⟩
    exact ((Chg.refl Nob _).alloc _).at (block_one_set HB.out) (fun e => e)

/-- What bringing a formula to its normal form leaves. -/
def NfPost (nb L : Nat) (u : T) (w : World) (e : Ending) (w' : World) : Prop :=
  Chg (At1 nb) w w' ∧ ((∃ v, sizeT u ≤ L ∧ e = .returned v ∧ Fresh (Ge w.heap.size) w' u v ∧ Nb w' nb (L - sizeT u)) ∨ (L < sizeT u ∧ e = .panicked much))
def FormC (t : T) : Prop := ∀ (R : Nat → Prop) (w : World) (nb L : Nat) (no : Bool) (v : Value), IsTree R w t v → (∀ b, R b → b ≠ nb) → Nb w nb L → Calls Tryz.prog 78 #[.pointer (some ⟨nb, 0, none⟩), v, .bool no] w (NfPost nb L (nfT t no) w)
theorem IsTree.at1 {R : Nat → Prop} {w w' : World} {t : T} {v : Value} {b : Nat} (h : IsTree R w t v) (hc : Chg (At1 b) w w') (hR : ∀ k, R k → k ≠ b) : IsTree R w' t v := h.chg hc (fun k hk e => hR k hk e)

/-- Three cells of a kid. -/
theorem kid_at1 {R : Nat → Prop} {w w' : World} {nb : Nat} {b : Nat} (hc : Chg (At1 nb) w w') (hR : ∀ k, R k → k ≠ nb) (hb : R b) {o : Nat} {u : Value} (h : w.cell? ⟨b, o, none⟩ = some u) : w'.cell? ⟨b, o, none⟩ = some u := hc.cell' h (hR b hb)

/-- A pair's end. -/
theorem nf_two {k : Int} {a b : T} {w w1 w2 wF : World} {a0 a1 a2 b0 b1 b2 : Value} {lo1 lo2 D : Nat} (h1 : Fresh (Ge lo1) w1 a (.agg #[a0, a1, a2])) (h2 : Fresh (Ge lo2) w2 b (.agg #[b0, b1, b2])) (hl1 : w.heap.size ≤ lo1) (hl2 : w.heap.size ≤ lo2)
    (S : Nat → Prop) (hS1 : ∀ q, S q → q < lo1 ∨ w1.heap.size ≤ q) (hS2 : ∀ q, S q → q < lo2 ∨ w2.heap.size ≤ q) (c1 : Chg S w1 wF) (c2 : Chg S w2 wF) (hD : wF.heap[D]? = some (.cells #[a0, a1, a2, b0, b1, b2] 24 (0, 0))) (hDl : w.heap.size ≤ D) :
    Fresh (Ge w.heap.size) wF (.node k [] [a, b]) (.agg #[.int .i64 k, .string ⟨#[]⟩, .slice (some ⟨D, 0, none⟩) 2 2]) := by
  rw [Fresh]
  refine .inr ⟨D, _, hDl, rfl, hD, by simp, ?_⟩
  rw [FreshL, FreshL, FreshL]
  refine ⟨h1.chg c1 (fun q hq hq2 e => ?_) (fun q hq => Nat.le_trans hl1 hq), h2.chg c2 (fun q hq hq2 e => ?_) (fun q hq => Nat.le_trans hl2 hq), trivial⟩
  · have hq : lo1 ≤ q := hq
    rcases hS1 q e with h | h <;> omega
  · have hq : lo2 ≤ q := hq
    rcases hS2 q e with h | h <;> omega
theorem nf_one {k : Int} {a : T} {w w1 wF : World} {a0 a1 a2 : Value} {lo1 D : Nat} (h1 : Fresh (Ge lo1) w1 a (.agg #[a0, a1, a2])) (hl1 : w.heap.size ≤ lo1)
    (S : Nat → Prop) (hS1 : ∀ q, S q → q < lo1 ∨ w1.heap.size ≤ q) (c1 : Chg S w1 wF) (hD : wF.heap[D]? = some (.cells #[a0, a1, a2] 24 (0, 0))) (hDl : w.heap.size ≤ D) :
    Fresh (Ge w.heap.size) wF (.node k [] [a]) (.agg #[.int .i64 k, .string ⟨#[]⟩, .slice (some ⟨D, 0, none⟩) 1 1]) := by
  rw [Fresh]
  refine .inr ⟨D, _, hDl, rfl, hD, by simp, ?_⟩
  rw [FreshL, FreshL]
  refine ⟨h1.chg c1 (fun q hq hq2 e => ?_) (fun q hq => Nat.le_trans hl1 hq), trivial⟩
  have hq : lo1 ≤ q := hq
  rcases hS1 q e with h | h <;> omega

set_option maxRecDepth 100000 in
set_option maxHeartbeats 4000000 in
theorem pair_any (t a b : T) (hkids : t.kids = [a, b]) (hfa : FormC a) (hfb : FormC b) (R : Nat → Prop) (w : World) (nb L : Nat) (k : Int) (no not : Bool) (v : Value) (ht : IsTree R w t v) (hR : ∀ b, R b → b ≠ nb) (hN : Nb w nb L) :
    Calls Tryz.prog 132 #[.pointer (some ⟨nb, 0, none⟩), .int .i64 k, v, .bool no, .bool not] w (NfPost nb L (.node k [] [nfT a no, nfT b not]) w) := by
  obtain ⟨ao, cap, rfl, hlen, hk⟩ := ht.parts
  rw [hkids] at hk
  obtain ⟨b1, o1, ak, capk, hao, hRb, p0, p1, p2, _, _, hta⟩ := hk.kid (j := 0) (t := a) rfl
  obtain ⟨b2, o2, bk, bcapk, hao2, hRb2, q0, q1, q2, _, _, htb⟩ := hk.kid (j := 1) (t := b) rfl
  subst hao
  cases hao2
  have hlen2 : t.kids.length = 2 := by rw [hkids]; rfl
  rw [hlen2]
  rw [Nat.zero_mul, Nat.add_zero] at p0 p1 p2
  rw [Nat.one_mul] at q0 q1 q2
  have hW : Hid (∃ W, W = (w.alloc (.cells #[.int .i64 t.kind, .string ⟨t.name.toArray⟩, .slice (some ⟨b1, o1, none⟩) 2 cap] 24)).alloc (.cells #[.int .i64 0, .string ⟨#[]⟩, .slice none 0 0] 24) ∧ Chg Nob w W ∧ W.heap.size = w.heap.size + 2 ∧
      W.heap[w.heap.size]? = some (.cells #[.int .i64 t.kind, .string ⟨t.name.toArray⟩, .slice (some ⟨b1, o1, none⟩) 2 cap] 24 (0, 0)) ∧ W.heap[w.heap.size + 1]? = some (.cells #[.int .i64 0, .string ⟨#[]⟩, .slice none 0 0] 24 (0, 0))) := by
    refine ⟨_, rfl, ((Chg.refl _ _).alloc _).alloc _, by rw [World.size_alloc, World.size_alloc], ((Chg.refl Nob _).alloc _).at (heap_alloc_new w _) (fun e => e), ?_⟩
    have := heap_alloc_new (w.alloc (.cells #[.int .i64 t.kind, .string ⟨t.name.toArray⟩, .slice (some ⟨b1, o1, none⟩) 2 cap] 24)) (.cells #[.int .i64 0, .string ⟨#[]⟩, .slice none 0 0] 24)
    rwa [World.size_alloc] at this
  have Hp := Lib.hid (And.intro p0 (And.intro p1 p2))
  have Hq := Lib.hid (And.intro q0 (And.intro q1 q2))
  have Hta := Lib.hid hta
  have Htb := Lib.hid htb
  have Hfa := Lib.hid hfa
  have Hfb := Lib.hid hfb
  have hnb := hN.lt
  have HN := Lib.hid hN
  clear ht hk hkids p0 p1 p2 q0 q1 q2 hta htb hfa hfb hN hlen2
  go_enter Tryz.func132, Tryz.ntmps132
  go_wp2_with fail
  obtain ⟨W, hWe, hcW, hsW, hbx, hres⟩ := hW.out
  rw [← hWe]
  clear hWe hW
  have Hbx := Lib.hid hbx
  have Hres := Lib.hid hres
  have HsW := Lib.hid hsW
  clear hbx hres hsW
  (with_reducible refine (npart_any W nb L k none 0 0 (HN.out.nob hcW)).mono ?_)
  rintro e w1 ⟨hc1, ⟨m, rfl, rfl, hN1⟩ | ⟨rfl, rfl⟩⟩
  · have hle := HN.out.le
    have g0 := cell_row hN1.blk 0 (v := .int .i64 (m : Int)) rfl
    have g1 : w1.frozen? ⟨nb, 0, none⟩ = false := by simp [World.frozen?, hN1.blk]
    have hN2 : Nb (w1.setCell ⟨nb, 0, none⟩ (.int .i64 ((m : Int) + 1))) nb (m + 1) := ⟨block_one_set hN1.blk, hle⟩
    have hc2 : Chg (At1 nb) W (w1.setCell ⟨nb, 0, none⟩ (.int .i64 ((m : Int) + 1))) := hc1.setCell (p := ⟨nb, 0, none⟩) (fun _ => rfl) _
    have ew : wrap64 ((m : Int) + 1) = (m : Int) + 1 := by unfold wrap64; omega
    have hbx2 := hc2.at Hbx.out (fun e => by have e : w.heap.size = nb := e; omega)
    obtain ⟨c0, c1, c2, _⟩ := cells_three hbx2
    have hcw2 : Chg (At1 nb) w (w1.setCell ⟨nb, 0, none⟩ (.int .i64 ((m : Int) + 1))) := hcW.any.trans1 hc2
    have p0 := kid_at1 hcw2 hR hRb Hp.out.1
    have p1 := kid_at1 hcw2 hR hRb Hp.out.2.1
    have p2 := kid_at1 hcw2 hR hRb Hp.out.2.2
    have hs1 := hc2.size
    have hcallA := Hfa.out R _ nb (m + 1) no _ (Hta.out.at1 hcw2 hR) hR hN2
    have HN2 := Lib.hid hN2
    have Hbx2 := Lib.hid hbx2
    clear hN1 hN2 hbx2
    go_wp2_with fail
    generalize w1.setCell ⟨nb, 0, none⟩ (.int .i64 ((m : Int) + 1)) = w2 at *
    (with_reducible refine hcallA.mono ?_)
    clear hcallA g0 g1 c0 c1 c2 p0 p1 p2
    rintro e w3 ⟨hc3, ⟨va, hsa, rfl, hFa, hN3⟩ | ⟨hsa, rfl⟩⟩
    · obtain ⟨a5, acap, rfl⟩ := hFa.agg
      obtain ⟨na, hna⟩ : ∃ na, na = nfT a no := ⟨_, rfl⟩
      rw [← hna] at hsa hFa hN3 ⊢
      have Hna := Lib.hid hna
      clear hna
      have hA : Chg Nob w3 (w3.alloc (.cells #[.int .i64 na.kind, .string ⟨na.name.toArray⟩, .slice a5 na.kids.length acap] 24)) := (Chg.refl _ _).alloc _
      have hta3 := heap_alloc_new w3 (.cells #[.int .i64 na.kind, .string ⟨na.name.toArray⟩, .slice a5 na.kids.length acap] 24)
      have hs3 : (w3.alloc (.cells #[.int .i64 na.kind, .string ⟨na.name.toArray⟩, .slice a5 na.kids.length acap] 24)).heap.size = w3.heap.size + 1 := World.size_alloc _ _
      have hN3A := hN3.nob hA
      have hc23 := hc3.trans1 hA.any
      have hcw3 := hcw2.trans1 hc23
      have hs23 := hc3.size
      have hsW := HsW.out
      have hbx3 := hc23.at Hbx2.out (fun e => by have e : w.heap.size = nb := e; omega)
      obtain ⟨c0, c1, c2, _⟩ := cells_three hbx3
      have q0 := kid_at1 hcw3 hR hRb Hq.out.1
      have q1 := kid_at1 hcw3 hR hRb Hq.out.2.1
      have q2 := kid_at1 hcw3 hR hRb Hq.out.2.2
      have hcallB := Hfb.out R _ nb _ not _ (Htb.out.at1 hcw3 hR) hR hN3A
      have Hta3 := Lib.hid hta3
      have Hs3 := Lib.hid hs3
      clear hN3 hN3A hbx3 hta3 hs3
      go_wp2_with fail
      generalize w3.alloc (.cells #[.int .i64 na.kind, .string ⟨na.name.toArray⟩, .slice a5 na.kids.length acap] 24) = W3 at *
      (with_reducible refine hcallB.mono ?_)
      clear hcallB c0 c1 c2 q0 q1 q2
      rintro e w4 ⟨hc4, ⟨vb, hsb, rfl, hFb, hN4⟩ | ⟨hsb, rfl⟩⟩
      · obtain ⟨b5, bcap, rfl⟩ := hFb.agg
        obtain ⟨nb', hnb'⟩ : ∃ n', n' = nfT b not := ⟨_, rfl⟩
        rw [← hnb'] at hsb hFb hN4 ⊢
        have Hnb' := Lib.hid hnb'
        clear hnb'
        have hB : Chg Nob w4 (w4.alloc (.cells #[.int .i64 nb'.kind, .string ⟨nb'.name.toArray⟩, .slice b5 nb'.kids.length bcap] 24)) := (Chg.refl _ _).alloc _
        have htb4 := heap_alloc_new w4 (.cells #[.int .i64 nb'.kind, .string ⟨nb'.name.toArray⟩, .slice b5 nb'.kids.length bcap] 24)
        have hs4 : (w4.alloc (.cells #[.int .i64 nb'.kind, .string ⟨nb'.name.toArray⟩, .slice b5 nb'.kids.length bcap] 24)).heap.size = w4.heap.size + 1 := World.size_alloc _ _
        have hN4B := hN4.nob hB
        have hc34 := hc4.trans1 hB.any
        have hz4 := hc4.size
        have hs3' := Hs3.out
        have hta4 := hc34.at Hta3.out (fun e => by have e : w3.heap.size = nb := e; omega)
        have hres4 := hc34.at (hc23.at (hc2.at Hres.out (fun e => by have e : w.heap.size + 1 = nb := e; omega)) (fun e => by have e : w.heap.size + 1 = nb := e; omega)) (fun e => by have e : w.heap.size + 1 = nb := e; omega)
        obtain ⟨c0, c1, c2, _⟩ := cells_three hta4
        obtain ⟨d0, d1, d2, _⟩ := cells_three htb4
        have hD : Chg Nob (w4.alloc (.cells #[.int .i64 nb'.kind, .string ⟨nb'.name.toArray⟩, .slice b5 nb'.kids.length bcap] 24)) ((w4.alloc (.cells #[.int .i64 nb'.kind, .string ⟨nb'.name.toArray⟩, .slice b5 nb'.kids.length bcap] 24)).alloc (.cells #[.int .i64 na.kind, .string ⟨na.name.toArray⟩, .slice a5 na.kids.length acap, .int .i64 nb'.kind, .string ⟨nb'.name.toArray⟩, .slice b5 nb'.kids.length bcap] 24)) := (Chg.refl _ _).alloc _
        have hDn := heap_alloc_new (w4.alloc (.cells #[.int .i64 nb'.kind, .string ⟨nb'.name.toArray⟩, .slice b5 nb'.kids.length bcap] 24)) (.cells #[.int .i64 na.kind, .string ⟨na.name.toArray⟩, .slice a5 na.kids.length acap, .int .i64 nb'.kind, .string ⟨nb'.name.toArray⟩, .slice b5 nb'.kids.length bcap] 24)
        rw [hs4] at hDn
        have hcallP := npart_any _ nb _ k (some ⟨w4.heap.size + 1, 0, none⟩) 2 2 (hN4B.nob hD)
        have Hres4 := Lib.hid (hD.at hres4 (fun e => e))
        have HDn := Lib.hid hDn
        have Hc4D := Lib.hid (hB.trans1 hD)
        have Hs4 := Lib.hid hs4
        clear hN4 hN4B hta4 htb4 hres4 hDn hs4 hD
        go_wp2_with fail
        generalize (w4.alloc (.cells #[.int .i64 nb'.kind, .string ⟨nb'.name.toArray⟩, .slice b5 nb'.kids.length bcap] 24)).alloc (.cells #[.int .i64 na.kind, .string ⟨na.name.toArray⟩, .slice a5 na.kids.length acap, .int .i64 nb'.kind, .string ⟨nb'.name.toArray⟩, .slice b5 nb'.kids.length bcap] 24) = W5 at *
        (with_reducible refine hcallP.mono ?_)
        clear hcallP c0 c1 c2 d0 d1 d2
        rintro e w6 ⟨hc6, ⟨m2, hm2, rfl, hN6⟩ | ⟨hm2, rfl⟩⟩
        · have hz5 := Hc4D.out.size
          have hres6 := hc6.at Hres4.out (fun e => by have e : w.heap.size + 1 = nb := e; omega)
          obtain ⟨c0, c1, c2, f0, f1, f2⟩ := cells_three hres6
          have k7 := chg_three w6 (w.heap.size + 1) (.int .i64 k) (.string ⟨#[]⟩) (.slice (some ⟨w4.heap.size + 1, 0, none⟩) 2 2)
          have hb7 := block_three_all hres6 (.int .i64 k) (.string ⟨#[]⟩) (.slice (some ⟨w4.heap.size + 1, 0, none⟩) 2 2)
          obtain ⟨e0, e1, e2, _⟩ := cells_three hb7
          have h46 : Chg (At1 nb) w4 w6 := Hc4D.out.any.trans1 hc6
          have h47 : Chg (fun q => q = nb ∨ q = w.heap.size + 1) w4 _ := (h46.mono (fun _ _ e => .inl e)).trans k7 (fun _ _ e => .inr e)
          have h37 : Chg (fun q => q = nb ∨ q = w.heap.size + 1) w3 _ := (((hA.any).trans1 hc4).mono (fun _ _ e => .inl e)).trans h47 (fun _ _ e => e)
          have hc7 : Chg (At1 nb) w _ := ((hcw3.trans1 hc4).mono (fun _ _ e => .inl e) : Chg (fun q => q = nb ∨ q = w.heap.size + 1) w w4).trans1 h47 |>.mono (fun i hi e => by rcases e with e | e; exact e; omega)
          have hF := nf_two (k := k) hFa hFb (by omega) (by omega) (fun q => q = nb ∨ q = w.heap.size + 1) (fun q e => by rcases e with e | e <;> omega) (fun q e => by rcases e with e | e <;> omega) h37 h47
            (k7.at (hc6.at HDn.out (fun e => by have e : w4.heap.size + 1 = nb := e; omega)) (fun e => by have e : w4.heap.size + 1 = w.heap.size + 1 := e; omega)) (by omega : w.heap.size ≤ w4.heap.size + 1)
          have hN7 := hN6.at1 k7 (by omega)
          have hsize : sizeT (T.node k [] [na, nb']) = 1 + (sizeT na + sizeT nb') := by rw [sizeT, sizeL, sizeL, sizeL]; omega
          have Hpost : Hid (NfPost nb (m + 1) (T.node k [] [nfT a no, nfT b not]) w (.returned (.agg #[.int .i64 k, .string ⟨#[]⟩, .slice (some ⟨w4.heap.size + 1, 0, none⟩) 2 2])) (((w6.setCell ⟨w.heap.size + 1, 0, none⟩ (.int .i64 k)).setCell ⟨w.heap.size + 1, 1, none⟩ (.string ⟨#[]⟩)).setCell ⟨w.heap.size + 1, 2, none⟩ (.slice (some ⟨w4.heap.size + 1, 0, none⟩) 2 2))) := by
            show NfPost _ _ _ _ _ _
            rw [← Hna.out, ← Hnb'.out]
            exact ⟨hc7, .inl ⟨_, by omega, rfl, hF, by rw [show m + 1 - sizeT (T.node k [] [na, nb']) = m2 by omega]; exact hN7⟩⟩
          have He := Lib.hid (And.intro e0 (And.intro e1 e2))
          clear k7 hb7 h47 h37 hc7 hF hN7 hres6 e0 e1 e2 hN6 hsize hFa hFb
          go_wp2
          obtain ⟨e0, e1, e2⟩ := He.out
          exact bodyPost_ret (v := .agg #[.int .i64 k, .string ⟨#[]⟩, .slice (some ⟨w4.heap.size + 1, 0, none⟩) 2 2]) (by simp [results, Tryz.results132, go_sem, e0, e1, e2]) rfl Hpost.out
        · go_wp2
          refine ⟨rfl, (hcw3.trans1 hc4).trans1 (Hc4D.out.any.trans1 hc6), .inr ⟨?_, rfl⟩⟩
          rw [← Hna.out, ← Hnb'.out, sizeT, sizeL, sizeL, sizeL]; omega
      · go_wp2
        refine ⟨rfl, hcw3.trans1 hc4, .inr ⟨?_, rfl⟩⟩
        rw [← Hna.out, sizeT, sizeL, sizeL, sizeL]; omega
    · go_wp2
      exact ⟨rfl, hcw2.trans1 hc3, .inr ⟨by rw [sizeT, sizeL, sizeL, sizeL]; omega, rfl⟩⟩
  · go_wp2
    exact ⟨rfl, hcW.any.trans1 hc1, .inr ⟨by rw [sizeT]; omega, rfl⟩⟩
end Go.Proofs.YtkgfdgfhpdhhaaaGreat
