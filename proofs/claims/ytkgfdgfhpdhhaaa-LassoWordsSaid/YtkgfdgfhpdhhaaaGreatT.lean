/- The law's own look at how great a tree is. Condition: the tree lies in the world. -/
import Derived.Test.YtkgfdgfhpdhhaaaOpen
namespace Go.Proofs.Ytkgfdgfhpdhhaaa
open Go.ChangeShapes Go.WideShapes Go.RowKit

mutual
def sizeT : T → Nat
  | .node _ _ kids => 1 + sizeL kids
def sizeL : List T → Nat
  | [] => 0
  | t :: ts => sizeT t + sizeL ts
end
theorem sizeT_eq (t : T) : sizeT t = 1 + sizeL t.kids := by cases t; rw [sizeT]; rfl
theorem sizeT_kid : ∀ {l : List T} {j : Nat} {t : T}, l[j]? = some t → sizeT t ≤ sizeL l
  | [], _, _, h => by simp at h
  | u :: l, 0, t, h => by
    obtain rfl : u = t := by simpa using h
    rw [sizeL]; omega
  | u :: l, j + 1, t, h => by
    have := sizeT_kid (l := l) (j := j) (t := t) (by simpa using h)
    rw [sizeL]; omega

mutual
def greatT : T → Int → Int
  | .node _ _ kids, left => greatL kids (left - 1)
def greatL : List T → Int → Int
  | [], left => left
  | t :: ts, left => if 0 < left then greatL ts (greatT t left) else left
end
theorem greatT_eq (t : T) (left : Int) : greatT t left = greatL t.kids (left - 1) := by cases t; rw [greatT]; rfl
mutual
theorem greatT_le : ∀ (t : T) (left : Int), 0 < left → 0 ≤ greatT t left ∧ greatT t left < left
  | .node _ _ kids, left, h => by
    rw [greatT]
    have := greatL_le kids (left - 1) (by omega)
    omega
theorem greatL_le : ∀ (l : List T) (left : Int), 0 ≤ left → 0 ≤ greatL l left ∧ greatL l left ≤ left
  | [], left, h => by rw [greatL]; omega
  | t :: ts, left, h => by
    rw [greatL]
    split
    · rename_i h0
      have h1 := greatT_le t left h0
      have h2 := greatL_le ts (greatT t left) (by omega)
      omega
    · omega
end

theorem drop_at' {α : Type} {l : List α} {k : Nat} {x : α} (h : l[k]? = some x) : l.drop k = x :: l.drop (k + 1) := by
  obtain ⟨h1, h2⟩ := List.getElem?_eq_some_iff.1 h
  rw [List.drop_eq_getElem_cons h1, h2]

def GrRel (W1 : World) (kids : List T) (r left : Int) (l i : Value) (wr : World) : Prop :=
  ∃ (k : Nat) (n : Int), l = .int .i64 n ∧ i = .int .i64 k ∧ k ≤ kids.length ∧ 0 ≤ n ∧ n < left ∧ Hid (r = greatL (kids.drop k) n) ∧ Chg Nob W1 wr

set_option maxRecDepth 100000 in
set_option maxHeartbeats 2000000 in
theorem great_any (R : Nat → Prop) : ∀ (N : Nat) (t : T), sizeT t ≤ N → ∀ (v : Value) (left : Int) (w : World), IsTree R w t v → 0 < left → left ≤ 1000000 →
    Calls Try.prog 29 #[v, .int .i64 left] w fun e w' => e = .returned (.int .i64 (greatT t left)) ∧ Chg Nob w w' := by
  intro N
  induction N with
  | zero => intro t h; rw [sizeT_eq] at h; omega
  | succ N ih =>
    intro t hN v left w ht h0 h1
    obtain ⟨ao, cap, rfl, hlen, hk⟩ := ht.parts
    have Ih := Lib.hid ih
    have Hk := Lib.hid hk
    have hsz : sizeL t.kids ≤ N := by rw [sizeT_eq] at hN; omega
    clear ih hk ht hN
    have hw1 : wrap64 (left - 1) = left - 1 := by unfold wrap64; omega
    go_enter Try.func29, Try.ntmps29
    go_wp2_with fail
    have hcW : Chg Nob w (w.alloc (Obj.cells #[Value.int IntKind.i64 t.kind, Value.string ⟨t.name.toArray⟩, Value.slice ao t.kids.length cap] 37)) := (Chg.refl _ _).alloc _
    have hbox := heap_alloc_new w (Obj.cells #[Value.int IntKind.i64 t.kind, Value.string ⟨t.name.toArray⟩, Value.slice ao t.kids.length cap] 37)
    generalize (w.alloc (Obj.cells #[Value.int IntKind.i64 t.kind, Value.string ⟨t.name.toArray⟩, Value.slice ao t.kids.length cap] 37)) = W1 at *
    have Hbox := Lib.hid hbox
    clear hbox
    go_loopw [1, 5] (fun l i wr => GrRel W1 t.kids (greatT t left) left l i wr) (fun _ i _ => t.kids.length - (intOf i).toNat)
    case atStart => exact ⟨0, left - 1, rfl, rfl, Nat.zero_le _, by omega, by omega, by show _ = _; rw [greatT_eq]; rfl, Chg.refl _ _⟩
    case round =>
      obtain ⟨k, n, rfl, rfl, hkk, hn0, hn1, hr, hc⟩ := hrel
      have hbx := hc.at Hbox.out (fun e => e)
      have c2 := cell_row hbx 2 (v := .slice ao t.kids.length cap) rfl
      clear hbx
      by_cases hlt : k < t.kids.length
      · obtain ⟨u, hu⟩ : ∃ u, t.kids[k]? = some u := ⟨_, List.getElem?_eq_getElem hlt⟩
        have hd : t.kids.drop k = u :: t.kids.drop (k + 1) := drop_at' hu
        have hki : (k : Int) < (t.kids.length : Int) := by omega
        have hk0 : (0 : Int) ≤ (k : Int) := by omega
        by_cases hn : 0 < n
        · obtain ⟨b, o, ak, capk, hao, hRb, q0, q1, q2, hl2, hk2, htree⟩ := Hk.out.kid hu
          have hcc := hcW.trans1 hc
          have q0' := hcc.cell' q0 (fun e => e)
          have q1' := hcc.cell' q1 (fun e => e)
          have q2' := hcc.cell' q2 (fun e => e)
          have hcall := Ih.out u (by have := sizeT_kid hu; omega) _ n wr (htree.nob hcc) hn (by omega)
          have hb := greatT_le u n hn
          have hr2 : Hid (greatT t left = greatL (t.kids.drop (k + 1)) (greatT u n)) := by
            show _ = _
            rw [hr.out, hd, greatL, if_pos hn]
          have Hb := Lib.hid hb
          clear q0 q1 q2 hk2 htree hr hd hb hu
          subst hao
          go_wp2_with fail
          (with_reducible refine hcall.mono ?_)
          clear hcall
          rintro e w3 ⟨rfl, hc3⟩
          go_wp2_with fail
          go_roundw
          case rel => exact ⟨k + 1, _, rfl, by go_num, by omega, Hb.out.1, by have := Hb.out; omega, hr2, hc.trans1 hc3⟩
          case measure => simp [intOf]; omega
        · have hn00 : n = 0 := by omega
          subst hn00
          have hr2 : greatT t left = 0 := by rw [hr.out, hd, greatL, if_neg (by omega)]
          have Hr2 := Lib.hid hr2
          clear hr2 hr hd hu
          go_wp2_with fail
          go_ret
          exact ⟨by rw [Hr2.out]; rfl, hcW.trans1 hc⟩
      · obtain rfl : k = t.kids.length := by omega
        have hr2 : greatT t left = n := by rw [hr.out, List.drop_length, greatL]
        have Hr2 := Lib.hid hr2
        clear hr2 hr
        go_wp2_with fail
        go_ret
        exact ⟨by rw [Hr2.out]; rfl, hcW.trans1 hc⟩
end Go.Proofs.Ytkgfdgfhpdhhaaa
