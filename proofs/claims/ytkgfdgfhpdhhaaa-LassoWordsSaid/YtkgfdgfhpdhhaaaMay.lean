/- The reference's May and Check. Condition: the tree lies in the world; it is not too great. -/
import Derived.Test.YtkgfdgfhpdhhaaaDepth
namespace Go.Proofs.Ytkgfdgfhpdhhaaa
open Go.ChangeShapes Go.WideShapes Go.RowKit

def okNode (k : Int) (nm : List UInt8) (n : Nat) : Bool := decide (kidsOf k = n) && (if k = 3 then nameB nm else decide (nm = []))
mutual
def mayT : T → Bool
  | .node k nm kids => okNode k nm kids.length && mayL kids
def mayL : List T → Bool
  | [] => true
  | t :: ts => mayT t && mayL ts
end
theorem mayT_eq (t : T) : mayT t = (okNode t.kind t.name t.kids.length && mayL t.kids) := by cases t; rw [mayT]; rfl
theorem mayL_all : ∀ {l : List T}, (∀ (j : Nat) (u : T), l[j]? = some u → mayT u = true) → mayL l = true
  | [], _ => by rw [mayL]
  | t :: ts, h => by
    rw [mayL, h 0 t rfl, mayL_all (l := ts) (fun j u hj => h (j + 1) u (by simpa using hj))]
    rfl
theorem mayL_not : ∀ {l : List T} {j : Nat} {u : T}, l[j]? = some u → mayT u = false → mayL l = false
  | [], _, _, h, _ => by simp at h
  | t :: ts, 0, u, h, hm => by
    obtain rfl : t = u := by simpa using h
    rw [mayL, hm]; rfl
  | t :: ts, j + 1, u, h, hm => by
    rw [mayL, mayL_not (l := ts) (j := j) (u := u) (by simpa using h) hm]
    simp

set_option maxRecDepth 100000 in
set_option maxHeartbeats 4000000 in
theorem rmay_any (R : Nat → Prop) : ∀ (N : Nat) (t : T), sizeT t ≤ N → ∀ (v : Value) (w : World), IsTree R w t v →
    Calls Try.prog 85 #[v] w fun e w' => e = .returned (.bool (mayT t)) ∧ Chg Nob w w' := by
  intro N
  induction N with
  | zero => intro t h; rw [sizeT_eq] at h; omega
  | succ N ih =>
    intro t hN v w ht
    obtain ⟨ao, cap, rfl, hlen, hk⟩ := ht.parts
    have Ih := Lib.hid ih
    have Hk := Lib.hid hk
    have hsz : sizeL t.kids ≤ N := by rw [sizeT_eq] at hN; omega
    have Hm := Lib.hid (mayT_eq t)
    clear ih hk ht hN
    obtain ⟨k0, hk0⟩ : ∃ k, k = t.kind := ⟨_, rfl⟩
    obtain ⟨nm, hnm⟩ : ∃ nm, nm = t.name := ⟨_, rfl⟩
    obtain ⟨kd, hkd⟩ : ∃ kd, kd = t.kids := ⟨_, rfl⟩
    rw [← hk0, ← hnm, ← hkd] at Hm ⊢
    rw [← hkd] at Hk hsz hlen
    clear hk0 hnm hkd
    go_enter Try.func85, Try.ntmps85
    go_wp2_with fail
    have hcW : Chg Nob w (w.alloc (Obj.cells #[Value.int IntKind.i64 k0, Value.string ⟨nm.toArray⟩, Value.slice ao kd.length cap] 37)) := (Chg.refl _ _).alloc _
    have hbox := heap_alloc_new w (Obj.cells #[Value.int IntKind.i64 k0, Value.string ⟨nm.toArray⟩, Value.slice ao kd.length cap] 37)
    generalize (w.alloc (Obj.cells #[Value.int IntKind.i64 k0, Value.string ⟨nm.toArray⟩, Value.slice ao kd.length cap] 37)) = W1 at *
    (with_reducible refine (risname_any nm _).mono ?_)
    rintro e w2 ⟨rfl, hc2⟩
    have hcw2 := hcW.trans1 hc2
    have hbx := hc2.at hbox (fun e => e)
    obtain ⟨c0, c1, c2, _, _⟩ := cell_three hbx
    have Hbox := Lib.hid hbx
    clear hbox hbx hcW hc2
    cases hA : (kidsOf k0 == (kd.length : Int)) with
    | false =>
      have hA2 : (kidsOf k0 != (kd.length : Int)) = true := by rw [bne, hA]; rfl
      have Hres : Hid (mayT t = false) := by
        show _ = _
        rw [Hm.out]
        unfold okNode
        rw [decide_eq_false (beq_eq_false_iff_ne.1 hA)]; rfl
      go_wp2_with fail
      go_quiet ((go_at_call 110; refine Calls.quiet_of_same ((rkids_any _ _).mono fun _ _ ⟨he, hw⟩ => ⟨he, hw.symm⟩)))
      go_wp2_with fail
      go_ret
      exact ⟨by rw [Hres.out]; rfl, hcw2.drewN _⟩
    | true =>
      have hA2 : (kidsOf k0 != (kd.length : Int)) = false := by rw [bne, hA]; rfl
      cases h3 : (k0 == 3) with
      | true =>
        have hk3 : k0 = 3 := beq_iff_eq.1 h3
        subst hk3
        cases hnb : nameB nm with
        | false =>
          have Hres : Hid (mayT t = false) := by
            show _ = _
            rw [Hm.out]
            unfold okNode
            rw [if_pos rfl, hnb]; simp
          go_wp2_with fail
          go_quiet ((go_at_call 110; refine Calls.quiet_of_same ((rkids_any _ _).mono fun _ _ ⟨he, hw⟩ => ⟨he, hw.symm⟩)))
          go_wp2_with fail
          go_ret
          exact ⟨by rw [Hres.out]; rfl, hcw2.drewN _⟩
        | true =>
          have Hok : Hid (okNode 3 nm kd.length = true) := by
            show _ = _
            unfold okNode
            rw [if_pos rfl, hnb, decide_eq_true (beq_iff_eq.1 hA)]; rfl
          go_wp2_with fail
          go_quiet ((go_at_call 110; refine Calls.quiet_of_same ((rkids_any _ _).mono fun _ _ ⟨he, hw⟩ => ⟨he, hw.symm⟩)))
          go_wp2_with fail
          have hcwq := hcw2.drewN nq
          have hbxq : (w2.drewN nq).heap[w.heap.size]? = some (.cells #[Value.int IntKind.i64 3, Value.string ⟨nm.toArray⟩, Value.slice ao kd.length cap] 37 (0, 0)) := Hbox.out
          generalize w2.drewN nq = W3 at *
          go_loopw [4] (fun i wr => ∃ j : Nat, i = .int .i64 j ∧ j ≤ kd.length ∧ Hid (∀ q u, q < j → kd[q]? = some u → mayT u = true) ∧ Chg Nob W3 wr) (fun i _ => kd.length - (intOf i).toNat)
          case atStart => exact ⟨0, rfl, Nat.zero_le _, fun q u h => absurd h (Nat.not_lt_zero q), Chg.refl _ _⟩
          case round =>
            obtain ⟨j, rfl, hj, hall, hc⟩ := hrel
            have hbx := hc.at hbxq (fun e => e)
            have c2 := cell_row hbx 2 (v := .slice ao kd.length cap) rfl
            clear hbx
            by_cases hlt : j < kd.length
            · obtain ⟨u, hu⟩ : ∃ u, kd[j]? = some u := ⟨_, List.getElem?_eq_getElem hlt⟩
              have hki : (j : Int) < (kd.length : Int) := by omega
              have hj0 : (0 : Int) ≤ (j : Int) := by omega
              obtain ⟨b, o, ak, capk, hao, hRb, q0, q1, q2, hl2, hk2, htree⟩ := Hk.out.kid hu
              have hcc := hcwq.trans1 hc
              have q0' := hcc.cell' q0 (fun e => e)
              have q1' := hcc.cell' q1 (fun e => e)
              have q2' := hcc.cell' q2 (fun e => e)
              have hcall := Ih.out u (by have := sizeT_kid hu; omega) _ wr (htree.nob hcc)
              have Hu := Lib.hid hu
              clear q0 q1 q2 hk2 htree hu
              subst hao
              go_wp2_with fail
              (with_reducible refine hcall.mono ?_)
              clear hcall
              rintro e w3 ⟨rfl, hc3⟩
              cases hmu : mayT u with
              | false =>
                have Hres : Hid (mayT t = false) := by
                  show _ = _
                  rw [Hm.out, mayL_not Hu.out hmu]
                  simp
                go_wp2_with fail
                go_ret
                exact ⟨by rw [Hres.out]; rfl, hcc.trans1 hc3⟩
              | true =>
                go_wp2_with fail
                go_roundw
                case rel => exact ⟨j + 1, by go_num, by omega, (show ∀ q u, q < j + 1 → kd[q]? = some u → mayT u = true from fun q x hq hx => by
                  by_cases e : q = j
                  · subst e
                    rw [Hu.out] at hx
                    cases hx
                    exact hmu
                  · exact hall.out q x (by omega) hx), hc.trans1 hc3⟩
                case measure => simp [intOf]; omega
            · obtain rfl : j = kd.length := by omega
              have Hres : Hid (mayT t = true) := by
                show _ = _
                rw [Hm.out, Hok.out, mayL_all (fun q u hq => hall.out q u (List.getElem?_eq_some_iff.1 hq).1 hq)]
                rfl
              go_wp2_with fail
              go_ret
              exact ⟨by rw [Hres.out]; rfl, hcwq.trans1 hc⟩
      | false =>
        have hk3 : ¬ k0 = 3 := beq_eq_false_iff_ne.1 h3
        have h32 : (k0 != 3) = true := by rw [bne, h3]; rfl
        cases hnn : (nm == []) with
        | false =>
          have hn2 : (nm != []) = true := by rw [bne, hnn]; rfl
          have hn3 : nm.isEmpty = false := by cases nm with
            | nil => cases hnn
            | cons _ _ => rfl
          have Hres : Hid (mayT t = false) := by
            show _ = _
            rw [Hm.out]
            unfold okNode
            rw [if_neg hk3, decide_eq_false (beq_eq_false_iff_ne.1 hnn)]; simp
          go_wp2_with fail
          go_quiet ((go_at_call 110; refine Calls.quiet_of_same ((rkids_any _ _).mono fun _ _ ⟨he, hw⟩ => ⟨he, hw.symm⟩)))
          go_wp2_with fail
          go_ret
          exact ⟨by rw [Hres.out]; rfl, hcw2.drewN _⟩
        | true =>
          have Hok : Hid (okNode k0 nm kd.length = true) := by
            show _ = _
            unfold okNode
            rw [if_neg hk3, decide_eq_true (beq_iff_eq.1 hnn), decide_eq_true (beq_iff_eq.1 hA)]; rfl
          have hemp : nm = [] := beq_iff_eq.1 hnn
          subst hemp
          go_wp2_with fail
          go_quiet ((go_at_call 110; refine Calls.quiet_of_same ((rkids_any _ _).mono fun _ _ ⟨he, hw⟩ => ⟨he, hw.symm⟩)))
          go_wp2_with fail
          have hcwq := hcw2.drewN nq
          have hbxq : (w2.drewN nq).heap[w.heap.size]? = some (.cells #[Value.int IntKind.i64 k0, Value.string ⟨#[]⟩, Value.slice ao kd.length cap] 37 (0, 0)) := Hbox.out
          generalize w2.drewN nq = W3 at *
          go_loopw [4] (fun i wr => ∃ j : Nat, i = .int .i64 j ∧ j ≤ kd.length ∧ Hid (∀ q u, q < j → kd[q]? = some u → mayT u = true) ∧ Chg Nob W3 wr) (fun i _ => kd.length - (intOf i).toNat)
          case atStart => exact ⟨0, rfl, Nat.zero_le _, fun q u h => absurd h (Nat.not_lt_zero q), Chg.refl _ _⟩
          case round =>
            obtain ⟨j, rfl, hj, hall, hc⟩ := hrel
            have hbx := hc.at hbxq (fun e => e)
            have c2 := cell_row hbx 2 (v := .slice ao kd.length cap) rfl
            clear hbx
            by_cases hlt : j < kd.length
            · obtain ⟨u, hu⟩ : ∃ u, kd[j]? = some u := ⟨_, List.getElem?_eq_getElem hlt⟩
              have hki : (j : Int) < (kd.length : Int) := by omega
              have hj0 : (0 : Int) ≤ (j : Int) := by omega
              obtain ⟨b, o, ak, capk, hao, hRb, q0, q1, q2, hl2, hk2, htree⟩ := Hk.out.kid hu
              have hcc := hcwq.trans1 hc
              have q0' := hcc.cell' q0 (fun e => e)
              have q1' := hcc.cell' q1 (fun e => e)
              have q2' := hcc.cell' q2 (fun e => e)
              have hcall := Ih.out u (by have := sizeT_kid hu; omega) _ wr (htree.nob hcc)
              have Hu := Lib.hid hu
              clear q0 q1 q2 hk2 htree hu
              subst hao
              go_wp2_with fail
              (with_reducible refine hcall.mono ?_)
              clear hcall
              rintro e w3 ⟨rfl, hc3⟩
              cases hmu : mayT u with
              | false =>
                have Hres : Hid (mayT t = false) := by
                  show _ = _
                  rw [Hm.out, mayL_not Hu.out hmu]
                  simp
                go_wp2_with fail
                go_ret
                exact ⟨by rw [Hres.out]; rfl, hcc.trans1 hc3⟩
              | true =>
                go_wp2_with fail
                go_roundw
                case rel => exact ⟨j + 1, by go_num, by omega, (show ∀ q u, q < j + 1 → kd[q]? = some u → mayT u = true from fun q x hq hx => by
                  by_cases e : q = j
                  · subst e
                    rw [Hu.out] at hx
                    cases hx
                    exact hmu
                  · exact hall.out q x (by omega) hx), hc.trans1 hc3⟩
                case measure => simp [intOf]; omega
            · obtain rfl : j = kd.length := by omega
              have Hres : Hid (mayT t = true) := by
                show _ = _
                rw [Hm.out, Hok.out, mayL_all (fun q u hq => hall.out q u (List.getElem?_eq_some_iff.1 hq).1 hq)]
                rfl
              go_wp2_with fail
              go_ret
              exact ⟨by rw [Hres.out]; rfl, hcwq.trans1 hc⟩

/-- P9.2's check. -/
def checkN (t : T) : Int := if mayT t = false then 92 else if 100 < depthT t then 93 else 0
set_option maxHeartbeats 1000000 in
theorem rcheck_any (R : Nat → Prop) (t : T) (v : Value) (w : World) (ht : IsTree R w t v) (hs : sizeT t ≤ 1000000) :
    Calls Try.prog 57 #[v] w fun e w' => e = .returned (.int .i64 (checkN t)) ∧ Chg Nob w w' := by
  have Ht := Lib.hid ht
  obtain ⟨ao, cap, rfl, hlen, _⟩ := ht.parts
  clear ht
  go_enter Try.func57, Try.ntmps57
  go_wp2_with fail
  have hcW : Chg Nob w (w.alloc (Obj.cells #[Value.int IntKind.i64 t.kind, Value.string ⟨t.name.toArray⟩, Value.slice ao t.kids.length cap] 37)) := (Chg.refl _ _).alloc _
  have hbox := heap_alloc_new w (Obj.cells #[Value.int IntKind.i64 t.kind, Value.string ⟨t.name.toArray⟩, Value.slice ao t.kids.length cap] 37)
  generalize (w.alloc (Obj.cells #[Value.int IntKind.i64 t.kind, Value.string ⟨t.name.toArray⟩, Value.slice ao t.kids.length cap] 37)) = W1 at *
  (with_reducible refine (rmay_any R _ t (Nat.le_refl _) _ _ (Ht.out.nob hcW)).mono ?_)
  rintro e w2 ⟨rfl, hc2⟩
  obtain ⟨c0, c1, c2, _, _⟩ := cell_three (hc2.at hbox (fun e => e))
  cases hm : mayT t with
  | false =>
    have Hres : Hid (checkN t = 92) := if_pos hm
    go_wp2_with fail
    go_ret
    exact ⟨by rw [Hres.out]; rfl, hcW.trans1 hc2⟩
  | true =>
    go_wp2_with fail
    (with_reducible refine (depth_any R _ t (Nat.le_refl _) hs _ _ (Ht.out.nob (hcW.trans1 hc2))).mono ?_)
    rintro e w3 ⟨rfl, hc3⟩
    by_cases hd : 100 < depthT t
    · have hdi : (100 : Int) < (depthT t : Int) := by omega
      have Hres : Hid (checkN t = 93) := by show _ = _; unfold checkN; rw [hm, if_neg (by simp), if_pos hd]
      go_wp2_with fail
      go_ret
      exact ⟨by rw [Hres.out]; rfl, (hcW.trans1 hc2).trans1 hc3⟩
    · have hdi : ¬ (100 : Int) < (depthT t : Int) := by omega
      have Hres : Hid (checkN t = 0) := by show _ = _; unfold checkN; rw [hm, if_neg (by simp), if_neg hd]
      go_wp2_with fail
      go_ret
      exact ⟨by rw [Hres.out]; rfl, (hcW.trans1 hc2).trans1 hc3⟩
end Go.Proofs.Ytkgfdgfhpdhhaaa
