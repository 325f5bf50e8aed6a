/- The reference's depth and size of a formula. Condition: the tree lies in the world; it is not too great. -/
import Derived.Test.YtkgfdgfhpdhhaaaGreatT
namespace Go.Proofs.Ytkgfdgfhpdhhaaa
open Go.ChangeShapes Go.WideShapes Go.RowKit

mutual
theorem greatT_pos : ∀ (t : T) (left : Int), 0 < greatT t left → 0 < left → greatT t left = left - sizeT t
  | .node _ _ kids, left, h, h0 => by
    rw [greatT] at h ⊢
    rw [sizeT]
    have := greatL_pos kids (left - 1) h (by omega)
    omega
theorem greatL_pos : ∀ (l : List T) (left : Int), 0 < greatL l left → 0 ≤ left → greatL l left = left - sizeL l
  | [], left, _, _ => by rw [greatL, sizeL]; omega
  | t :: ts, left, h, h0 => by
    rw [greatL] at h ⊢
    rw [sizeL]
    split at h
    · rename_i hl
      rw [if_pos hl]
      have hb := greatT_le t left hl
      have h1 := greatL_pos ts (greatT t left) h hb.1
      have h2 := greatL_le ts (greatT t left) hb.1
      have h3 := greatT_pos t left (by omega) hl
      omega
    · omega
end

mutual
def depthT : T → Nat
  | .node _ _ kids => depthL kids + 1
def depthL : List T → Nat
  | [] => 0
  | t :: ts => max (depthT t) (depthL ts)
end
theorem depthT_eq (t : T) : depthT t = depthL t.kids + 1 := by cases t; rw [depthT]; rfl
mutual
theorem depthT_size : ∀ t : T, depthT t ≤ sizeT t
  | .node _ _ kids => by
    rw [depthT, sizeT]
    have := depthL_size kids
    omega
theorem depthL_size : ∀ l : List T, depthL l ≤ sizeL l
  | [] => by rw [depthL, sizeL]; omega
  | t :: ts => by
    rw [depthL, sizeL]
    have := depthT_size t
    have := depthL_size ts
    omega
end
theorem depthL_append : ∀ (l m : List T), depthL (l ++ m) = max (depthL l) (depthL m)
  | [], m => by rw [List.nil_append, depthL]; omega
  | t :: l, m => by
    rw [List.cons_append, depthL, depthL, depthL_append l m]
    omega
theorem sizeL_append : ∀ (l m : List T), sizeL (l ++ m) = sizeL l + sizeL m
  | [], m => by rw [List.nil_append, sizeL]; omega
  | t :: l, m => by
    rw [List.cons_append, sizeL, sizeL, sizeL_append l m]
    omega
theorem depth_next {l : List T} {k : Nat} {t : T} (h : l[k]? = some t) : depthL (l.take (k + 1)) = max (depthL (l.take k)) (depthT t) := by
  rw [List.take_add_one, h]
  show depthL (l.take k ++ [t]) = _
  rw [depthL_append, depthL, depthL]
  omega
theorem size_next {l : List T} {k : Nat} {t : T} (h : l[k]? = some t) : sizeL (l.take (k + 1)) = sizeL (l.take k) + sizeT t := by
  rw [List.take_add_one, h]
  show sizeL (l.take k ++ [t]) = _
  rw [sizeL_append, sizeL, sizeL]
  omega
theorem size_part {l : List T} (k : Nat) : sizeL (l.take k) ≤ sizeL l := by
  have h : sizeL (l.take k ++ l.drop k) = _ := sizeL_append (l.take k) (l.drop k)
  rw [List.take_append_drop] at h
  omega
theorem depth_part {l : List T} (k : Nat) : depthL (l.take k) ≤ depthL l := by
  have h : depthL (l.take k ++ l.drop k) = _ := depthL_append (l.take k) (l.drop k)
  rw [List.take_append_drop] at h
  omega

def DpRel (W1 : World) (kids : List T) (n i : Value) (wr : World) : Prop :=
  ∃ k : Nat, n = .int .i64 (depthL (kids.take k)) ∧ i = .int .i64 k ∧ k ≤ kids.length ∧ Chg Nob W1 wr

set_option maxRecDepth 100000 in
set_option maxHeartbeats 2000000 in
theorem depth_any (R : Nat → Prop) : ∀ (N : Nat) (t : T), sizeT t ≤ N → N ≤ 1000000 → ∀ (v : Value) (w : World), IsTree R w t v →
    Calls Try.prog 40 #[v] w fun e w' => e = .returned (.int .i64 (depthT t)) ∧ Chg Nob w w' := by
  intro N
  induction N with
  | zero => intro t h; rw [sizeT_eq] at h; omega
  | succ N ih =>
    intro t hN hN9 v w ht
    obtain ⟨ao, cap, rfl, hlen, hk⟩ := ht.parts
    have Ih := Lib.hid ih
    have Hk := Lib.hid hk
    have hsz : sizeL t.kids ≤ N := by rw [sizeT_eq] at hN; omega
    have Hd := Lib.hid (depthT_eq t)
    have hdl : depthL t.kids ≤ 1000000 := by have := depthL_size t.kids; omega
    clear ih hk ht hN
    go_enter Try.func40, Try.ntmps40
    go_wp2_with fail
    have hcW : Chg Nob w (w.alloc (Obj.cells #[Value.int IntKind.i64 t.kind, Value.string ⟨t.name.toArray⟩, Value.slice ao t.kids.length cap] 37)) := (Chg.refl _ _).alloc _
    have hbox := heap_alloc_new w (Obj.cells #[Value.int IntKind.i64 t.kind, Value.string ⟨t.name.toArray⟩, Value.slice ao t.kids.length cap] 37)
    generalize (w.alloc (Obj.cells #[Value.int IntKind.i64 t.kind, Value.string ⟨t.name.toArray⟩, Value.slice ao t.kids.length cap] 37)) = W1 at *
    have Hbox := Lib.hid hbox
    clear hbox
    go_loopw [3, 4] (fun n i wr => DpRel W1 t.kids n i wr) (fun _ i _ => t.kids.length - (intOf i).toNat)
    case atStart => exact ⟨0, by rw [List.take_zero, depthL]; rfl, rfl, Nat.zero_le _, Chg.refl _ _⟩
    case round =>
      obtain ⟨k, rfl, rfl, hkk, hc⟩ := hrel
      have hbx := hc.at Hbox.out (fun e => e)
      have c2 := cell_row hbx 2 (v := .slice ao t.kids.length cap) rfl
      clear hbx
      by_cases hlt : k < t.kids.length
      · obtain ⟨u, hu⟩ : ∃ u, t.kids[k]? = some u := ⟨_, List.getElem?_eq_getElem hlt⟩
        have hki : (k : Int) < (t.kids.length : Int) := by omega
        have hk0 : (0 : Int) ≤ (k : Int) := by omega
        obtain ⟨b, o, ak, capk, hao, hRb, q0, q1, q2, hl2, hk2, htree⟩ := Hk.out.kid hu
        have hcc := hcW.trans1 hc
        have q0' := hcc.cell' q0 (fun e => e)
        have q1' := hcc.cell' q1 (fun e => e)
        have q2' := hcc.cell' q2 (fun e => e)
        have hcall := Ih.out u (by have := sizeT_kid hu; omega) (by omega) _ wr (htree.nob hcc)
        have Hn := Lib.hid (depth_next hu)
        clear q0 q1 q2 hk2 htree hu
        subst hao
        obtain ⟨d, hd⟩ : ∃ d, d = depthL (t.kids.take k) := ⟨_, rfl⟩
        obtain ⟨du, hdu⟩ : ∃ du, du = depthT u := ⟨_, rfl⟩
        rw [← hd, ← hdu] at Hn
        rw [← hdu] at hcall
        rw [← hd]
        clear hd hdu
        by_cases hgt : d < du
        · have hgi : (d : Int) < (du : Int) := by omega
          have hnew : Hid (depthL (t.kids.take (k + 1)) = du) := by show _ = _; rw [Hn.out]; omega
          clear Hn
          go_wp2_with fail
          (with_reducible refine hcall.mono ?_)
          clear hcall
          rintro e w3 ⟨rfl, hc3⟩
          go_wp2_with fail
          go_roundw
          case rel => exact ⟨k + 1, by rw [hnew.out], by go_num, by omega, hc.trans1 hc3⟩
          case measure => simp [intOf]; omega
        · have hgi : ¬ (d : Int) < (du : Int) := by omega
          have hnew : Hid (depthL (t.kids.take (k + 1)) = d) := by show _ = _; rw [Hn.out]; omega
          clear Hn
          go_wp2_with fail
          (with_reducible refine hcall.mono ?_)
          clear hcall
          rintro e w3 ⟨rfl, hc3⟩
          go_wp2_with fail
          go_roundw
          case rel => exact ⟨k + 1, by rw [hnew.out], by go_num, by omega, hc.trans1 hc3⟩
          case measure => simp [intOf]; omega
      · obtain rfl : k = t.kids.length := by omega
        rw [List.take_length]
        obtain ⟨d, hd⟩ : ∃ d, d = depthL t.kids := ⟨_, rfl⟩
        rw [← hd] at Hd hdl ⊢
        clear hd
        go_wp2_with fail
        go_ret
        exact ⟨by rw [Hd.out]; first | rfl | (simp; rfl), hcW.trans1 hc⟩

/-- The reference's size: up to one more than may be told. -/
def sizeR (t : T) : Nat := if 20000 < sizeT t then 20001 else sizeT t
def SzRel (W1 : World) (kids : List T) (n i : Value) (wr : World) : Prop :=
  ∃ k : Nat, n = .int .i64 ((1 + sizeL (kids.take k) : Nat) : Int) ∧ i = .int .i64 k ∧ k ≤ kids.length ∧ 1 + sizeL (kids.take k) ≤ 20000 ∧ Chg Nob W1 wr

set_option maxRecDepth 100000 in
set_option maxHeartbeats 2000000 in
theorem rsize_any (R : Nat → Prop) : ∀ (N : Nat) (t : T), sizeT t ≤ N → ∀ (v : Value) (w : World), IsTree R w t v →
    Calls Try.prog 58 #[v] w fun e w' => e = .returned (.int .i64 (sizeR t)) ∧ Chg Nob w w' := by
  intro N
  induction N with
  | zero => intro t h; rw [sizeT_eq] at h; omega
  | succ N ih =>
    intro t hN v w ht
    obtain ⟨ao, cap, rfl, hlen, hk⟩ := ht.parts
    have Ih := Lib.hid ih
    have Hk := Lib.hid hk
    have hsz : sizeL t.kids ≤ N := by rw [sizeT_eq] at hN; omega
    have Hd := Lib.hid (sizeT_eq t)
    clear ih hk ht hN
    go_enter Try.func58, Try.ntmps58
    go_wp2_with fail
    have hcW : Chg Nob w (w.alloc (Obj.cells #[Value.int IntKind.i64 t.kind, Value.string ⟨t.name.toArray⟩, Value.slice ao t.kids.length cap] 37)) := (Chg.refl _ _).alloc _
    have hbox := heap_alloc_new w (Obj.cells #[Value.int IntKind.i64 t.kind, Value.string ⟨t.name.toArray⟩, Value.slice ao t.kids.length cap] 37)
    generalize (w.alloc (Obj.cells #[Value.int IntKind.i64 t.kind, Value.string ⟨t.name.toArray⟩, Value.slice ao t.kids.length cap] 37)) = W1 at *
    have Hbox := Lib.hid hbox
    clear hbox
    go_loopw [3, 4] (fun n i wr => SzRel W1 t.kids n i wr) (fun _ i _ => t.kids.length - (intOf i).toNat)
    case atStart => exact ⟨0, by rw [List.take_zero, sizeL]; rfl, rfl, Nat.zero_le _, by rw [List.take_zero, sizeL]; omega, Chg.refl _ _⟩
    case round =>
      obtain ⟨k, rfl, rfl, hkk, hle, hc⟩ := hrel
      have hbx := hc.at Hbox.out (fun e => e)
      have c2 := cell_row hbx 2 (v := .slice ao t.kids.length cap) rfl
      clear hbx
      by_cases hlt : k < t.kids.length
      · obtain ⟨u, hu⟩ : ∃ u, t.kids[k]? = some u := ⟨_, List.getElem?_eq_getElem hlt⟩
        have hki : (k : Int) < (t.kids.length : Int) := by omega
        have hk0 : (0 : Int) ≤ (k : Int) := by omega
        obtain ⟨b, o, ak, capk, hao, hRb, q0, q1, q2, hl2, hk2, htree⟩ := Hk.out.kid hu
        have hcc := hcW.trans1 hc
        have q0' := hcc.cell' q0 (fun e => e)
        have q1' := hcc.cell' q1 (fun e => e)
        have q2' := hcc.cell' q2 (fun e => e)
        have hcall := Ih.out u (by have := sizeT_kid hu; omega) _ wr (htree.nob hcc)
        have Hn := Lib.hid (size_next hu)
        have Hpart := Lib.hid (size_part (l := t.kids) (k + 1))
        clear q0 q1 q2 hk2 htree hu
        subst hao
        obtain ⟨d, hd⟩ : ∃ d, d = 1 + sizeL (t.kids.take k) := ⟨_, rfl⟩
        rw [← hd] at hle ⊢
        have Hdd := Lib.hid hd
        clear hd
        by_cases hbig : 20000 < sizeT u
        · have hsu : sizeR u = 20001 := if_pos hbig
          rw [hsu] at hcall
          have hres : Hid (sizeR t = 20001) := by
            show _ = _
            exact if_pos (by have := Hd.out; have := Hn.out; have := Hpart.out; omega)
          clear hsu
          have hd1 : 1 ≤ d := by have := Hdd.out; omega
          have hgt : (20000 : Int) < (d : Int) + 20001 := by omega
          go_wp2_with fail
          (with_reducible refine hcall.mono ?_)
          clear hcall
          rintro e w3 ⟨rfl, hc3⟩
          go_wp2_with fail
          go_ret
          exact ⟨by rw [hres.out]; rfl, hcc.trans1 hc3⟩
        · have hsu : sizeR u = sizeT u := if_neg hbig
          rw [hsu] at hcall
          clear hsu
          obtain ⟨du, hdu⟩ : ∃ du, du = sizeT u := ⟨_, rfl⟩
          rw [← hdu] at hcall hbig Hn
          clear hdu
          by_cases hgt : 20000 < d + du
          · have hgi : (20000 : Int) < (d : Int) + (du : Int) := by omega
            have hres : Hid (sizeR t = 20001) := by
              show _ = _
              exact if_pos (by have := Hd.out; have := Hn.out; have := Hpart.out; have := Hdd.out; omega)
            go_wp2_with fail
            (with_reducible refine hcall.mono ?_)
            clear hcall
            rintro e w3 ⟨rfl, hc3⟩
            go_wp2_with fail
            go_ret
            exact ⟨by rw [hres.out]; rfl, hcc.trans1 hc3⟩
          · have hgi : ¬ (20000 : Int) < (d : Int) + (du : Int) := by omega
            have hnew : Hid (1 + sizeL (t.kids.take (k + 1)) = d + du) := by show _ = _; have := Hn.out; have := Hdd.out; omega
            go_wp2_with fail
            (with_reducible refine hcall.mono ?_)
            clear hcall
            rintro e w3 ⟨rfl, hc3⟩
            go_wp2_with fail
            go_roundw
            case rel => exact ⟨k + 1, by rw [hnew.out]; rfl, by go_num, by omega, by rw [hnew.out]; omega, hc.trans1 hc3⟩
            case measure => simp [intOf]; omega
      · obtain rfl : k = t.kids.length := by omega
        rw [List.take_length] at hle ⊢
        have hres : Hid (sizeR t = 1 + sizeL t.kids) := by
          show _ = _
          rw [sizeR, if_neg (by have := Hd.out; omega), Hd.out]
        go_wp2_with fail
        go_ret
        exact ⟨by rw [hres.out]; rfl, hcW.trans1 hc⟩
end Go.Proofs.Ytkgfdgfhpdhhaaa
