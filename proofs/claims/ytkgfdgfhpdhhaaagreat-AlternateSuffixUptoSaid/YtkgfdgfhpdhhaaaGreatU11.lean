/- Parts of the walks and of the plain theory: ltl's small: what a plain formula is made. Conditions: the formula lies in the world. -/
import Derived.Test.YtkgfdgfhpdhhaaaGreatU10
import Derived.Test.YtkgfdgfhpdhhaaaGreatU01
import Derived.Test.YtkgfdgfhpdhhaaaGreatU04
import Derived.Laws.MakeOwn
import Derived.Test.YtkgfdgfhpdhhaaaGreatU05
namespace Go.Proofs.YtkgfdgfhpdhhaaaGreat
open Go.ChangeShapes Go.WideShapes Go.RowKit
open PL (F)
theorem results51 {rb : Nat} {tm : Array Value} {w : World} {x y z : Value} (h2 : tm[2]? = some (.pointer (some ⟨rb, 0, none⟩))) (hb : w.heap[rb]? = some (.cells #[x, y, z] 24 (0, 0))) : (results Tryz.f51 tm).run Tryz.prog w = .ok (.agg #[x, y, z]) w := by
  obtain ⟨c0, c1, c2, _⟩ := cells_three hb
  simp [results, Tryz.results51, go_sem, h2, c0, c1, c2]
def midF : F → F
  | .nx a => .nx (PL.smallF a)
  | .an a b => .an (PL.smallF a) (PL.smallF b)
  | .or a b => .or (PL.smallF a) (PL.smallF b)
  | .un a b => .un (PL.smallF a) (PL.smallF b)
  | .re a b => .re (PL.smallF a) (PL.smallF b)
  | t => t
theorem midF_kids (f : F) : (tF (midF f)).kids = (kidsF f).map fun g => tF (PL.smallF g) := by cases f <;> rfl
theorem midF_kind (f : F) : (tF (midF f)).kind = (tF f).kind := by cases f <;> rfl
theorem midF_name (f : F) : (tF (midF f)).name = (tF f).name := by cases f <;> rfl
theorem fin_store {R : Nat → Prop} {w wc wn : World} {t : T} {u0 u1 u2 v : Value} (hR : ∀ b, R b → b < w.heap.size) (h2 : w.heap.size + 2 ≤ wc.heap.size) (hT : IsTree (NewIn R wc wn) wn t v) :
    IsTree (NewIn R w (((wn.setCell ⟨w.heap.size + 1, 0, none⟩ u0).setCell ⟨w.heap.size + 1, 1, none⟩ u1).setCell ⟨w.heap.size + 1, 2, none⟩ u2)) (((wn.setCell ⟨w.heap.size + 1, 0, none⟩ u0).setCell ⟨w.heap.size + 1, 1, none⟩ u1).setCell ⟨w.heap.size + 1, 2, none⟩ u2) t v := by
  have k := chg_three wn (w.heap.size + 1) u0 u1 u2
  refine IsTree.mono (fun a v hb h => k.cell' h (fun e => ?_)) (fun b hb => ?_) _ _ hT
  · have e : a.block = w.heap.size + 1 := e
    rcases hb with hb | hb
    · have := hR _ hb; omega
    · omega
  · have h5 := k.size
    rcases hb with hb | hb
    · exact .inl hb
    · exact .inr ⟨by omega, by omega⟩
def onlyU : F → Bool
  | .pr _ => true
  | .un a b => onlyU a && onlyU b
  | _ => false
theorem onlyU_kids {f g : F} (h : onlyU f = true) (hg : g ∈ kidsF f) : onlyU g = true := by
  cases f with
  | un a b =>
    rw [onlyU, Bool.and_eq_true] at h
    simp [kidsF] at hg
    rcases hg with rfl | rfl
    · exact h.1
    · exact h.2
  | pr n => simp [kidsF] at hg
  | tt => exact absurd h Bool.false_ne_true
  | ff => exact absurd h Bool.false_ne_true
  | np n => exact absurd h Bool.false_ne_true
  | an a b => exact absurd h Bool.false_ne_true
  | or a b => exact absurd h Bool.false_ne_true
  | re a b => exact absurd h Bool.false_ne_true
  | nx a => exact absurd h Bool.false_ne_true
set_option maxRecDepth 100000 in
set_option maxHeartbeats 16000000 in
theorem small_step {f : F} (hun : onlyU f = true) (ih : ∀ g ∈ kidsF f, ∀ (R : Nat → Prop) (w : World) (v : Value), (∀ b, R b → b < w.heap.size) → IsTree R w (tF g) v → Calls Tryz.prog 51 #[v] w (FPost R (PL.smallF g) w))
    {R : Nat → Prop} {v : Value} {w : World} (hR : ∀ b, R b → b < w.heap.size) (hv : IsTree R w (tF f) v) : Calls Tryz.prog 51 #[v] w (FPost R (PL.smallF f) w) := by
  obtain ⟨ao, cap, rfl⟩ := hv.agg'
  obtain ⟨W, hWe, hcW, hb0, hb1, hsW⟩ := box_two' w (.int .i64 (tF f).kind) (.string ⟨(tF f).name.toArray⟩) (.slice ao (tF f).kids.length cap)
  have hkl : (tF f).kids.length ≤ 2 := by cases f <;> simp [tF, T.kids]
  have hkl2 : (tF f).kids.length = (kidsF f).length := by rw [tF_kids, List.length_map]
  have HR := Lib.hid hR
  have Hv := Lib.hid hv
  have HcW := Lib.hid hcW
  have Hb0 := Lib.hid hb0
  have Hb1 := Lib.hid hb1
  have HsW := Lib.hid hsW
  have Ih := Lib.hid ih
  have Hkl2 := Lib.hid hkl2
  obtain ⟨c0, c1, c2, _⟩ := cells_three hb0
  have hrow0 : Hid (SmRow R (w.heap.size + 2) ((kidsF f).map fun g => tF (PL.smallF g)) 0 (.slice none 0 0) [] W) := (show SmRow R (w.heap.size + 2) _ 0 (.slice none 0 0) [] W from ⟨rfl, ⟨rfl, .inl ⟨rfl, rfl⟩⟩, fun i t v _ h => by simp at h⟩)
  clear hR hv hcW hb0 hb1 hsW ih hkl2
  rw [hWe] at c2
  go_enter Tryz.func51, Tryz.ntmps51
  go_wp2_with fail
  rw [← hWe]
  clear hWe c0 c1 c2
  go_loopw [3, 10] (fun sl iv wr => ∃ (j : Nat) (vs : List Value), iv = .int .i64 (j : Int) ∧ j ≤ (tF f).kids.length ∧ Hid (SmRow R (w.heap.size + 2) ((kidsF f).map fun g => tF (PL.smallF g)) j sl vs wr) ∧ Hid (Chg (fun q => w.heap.size + 2 ≤ q) W wr)) (fun _ iv _ => (tF f).kids.length - (intOf iv).toNat)
  case atStart => exact ⟨0, _, rfl, Nat.zero_le _, hrow0, Chg.refl _ _⟩
  case round =>
    clear hrow0
    obtain ⟨j, vs, rfl, hj, HO, Hc⟩ := hrel
    have hcw : Hid (Chg Nob w wr) := (show Chg Nob w wr from (HcW.out.any (S := fun q => w.heap.size + 2 ≤ q)).trans1 Hc.out |>.mono (fun i hi e => by omega))
    have hsr : Hid (w.heap.size + 2 ≤ wr.heap.size) := (show w.heap.size + 2 ≤ wr.heap.size by have := Hc.out.size; have := HsW.out; omega)
    by_cases hlt : j < (tF f).kids.length
    · obtain ⟨x, hx⟩ : ∃ x, (kidsF f)[j]? = some x := ⟨_, List.getElem?_eq_getElem (by rw [← Hkl2.out]; exact hlt)⟩
      obtain ⟨bk, o, sx, cx, hao, p0, p1, p2, htx⟩ := Hv.out.kid' (j := j) (x := tF x) (by rw [tF_kids, List.getElem?_map, hx]; rfl)
      have p0' := hcw.out.cell' p0 (fun e => e)
      have p1' := hcw.out.cell' p1 (fun e => e)
      have p2' := hcw.out.cell' p2 (fun e => e)
      have hki : (j : Int) < ((tF f).kids.length : Int) := by omega
      have hk0 : (0 : Int) ≤ (j : Int) := by omega
      have hA : Chg Nob wr (wr.alloc (.cells #[.int .i64 (tF x).kind, .string ⟨(tF x).name.toArray⟩, .slice sx (tF x).kids.length cx] 24)) := (Chg.refl _ _).alloc _
      have hp := Ih.out x (List.mem_of_getElem? hx) R _ _ (fun b hb => by have := HR.out b hb; have := hcw.out.size; have := hA.size; omega) (htx.nob (hcw.out.trans1 hA))
      have HA := Lib.hid hA
      have Hp := Lib.hid hp
      have Hx : Hid (((kidsF f).map fun g => tF (PL.smallF g))[j]? = some (tF (PL.smallF x))) := (show _ = _ by rw [List.getElem?_map, hx]; rfl)
      obtain ⟨ao3, cc3, hsl⟩ := ownsRow_shape HO.out.row
      subst hsl
      clear p0 p1 p2 htx hx hA hp
      subst hao
      go_wp2_with fail
      (with_reducible refine Hp.out.mono ?_)
      rintro e w4 ⟨hc4, v4, rfl, ht4⟩
      obtain ⟨a4, k4, e4⟩ := ht4.agg'
      subst e4
      have hrow5 := ownsRow_chg (ownsRow_chg HO.out.row (HA.out.trans1 hc4) (fun _ _ e => e)) ((Chg.refl Nob w4).alloc (.cells #[.int .i64 (tF (PL.smallF x)).kind, .string ⟨(tF (PL.smallF x)).name.toArray⟩, .slice a4 (tF (PL.smallF x)).kids.length k4] 24)) (fun _ _ e => e)
      obtain ⟨g', capg, w6, hrun, hrow6, hgr, hlies, hg6⟩ := append37 (ys := [.int .i64 (tF (PL.smallF x)).kind, .string ⟨(tF (PL.smallF x)).name.toArray⟩, .slice a4 (tF (PL.smallF x)).kids.length k4]) hrow5 (by have h1 := hsr.out; have h2 := HA.out.size; have h3 := hc4.size; rw [World.size_alloc]; omega) (by omega) rfl (by intro u hu; simp at hu; rcases hu with rfl | rfl | rfl <;> rfl) (heap_alloc_new w4 _)
      obtain ⟨hO6, hc6⟩ := HO.out.next (fun b hb => by have := HR.out b hb; omega) hsr.out Hx.out HA.out hc4 ht4 rfl hrow6 hgr hlies
      have HO6 := Lib.hid hO6
      have Hc6 : Hid (Chg (fun q => w.heap.size + 2 ≤ q) W w6) := (show Chg (fun q => w.heap.size + 2 ≤ q) W w6 from Hc.out.trans1 hc6)
      have Hrun := Lib.hid hrun
      clear hrow5 hrow6 hgr hlies hg6 hO6 hc6 hrun hc4 ht4 p0' p1' p2'
      go_wp2_with (refine wpList_append_known rfl _ _ 22 22 rfl _ _ rfl rfl _ w6 Hrun.out ?_)
      go_roundw
      case rel => exact ⟨j + 1, _, by go_num, by omega, HO6, Hc6⟩
      case measure => simp [intOf]; omega
    · obtain rfl : j = (tF f).kids.length := by omega
      have hmk : (tF (midF f)).kids.length = (tF f).kids.length := by rw [midF_kids, List.length_map]; exact Hkl2.out.symm
      obtain ⟨ao2, cap2, hsl, hkids⟩ := kids_of_row (kids := (tF (midF f)).kids) HO.out.row HO.out.len hmk (R := NewIn R W wr) (fun i t v h1 h2 => IsTree.mono (fun _ _ _ h => h) (fun q hq => by rcases hq.1 with e | e; exact .inl e; exact .inr ⟨by have := HsW.out; omega, e.2⟩) t v (HO.out.trees i t v (by rw [← midF_kids]; exact h1) h2)) (fun g hg => by have := HO.out.row.lt g hg; exact .inr ⟨by have := HsW.out; omega, this.2⟩)
      have hT := IsTree.of_parts (t := tF (midF f)) (cap := cap2) (by rw [hmk]; omega) hkids
      rw [midF_kind, midF_name, hmk] at hT
      have HT := Lib.hid hT
      have hbv := Hc.out.at Hb0.out (fun e => by omega)
      have hbr := Hc.out.at Hb1.out (fun e => by omega)
      have hck := IsKids.mono (R' := NewIn R W wr) (fun _ _ _ h => h) (fun _ h => h) _ _ _ hkids
      have Hkids := Lib.hid hck
      subst hsl
      clear hmk hkids hT hck
      obtain ⟨v0, v1, v2, f0, f1, f2⟩ := cells_three hbv
      have HbV : Hid ((wr.setCell ⟨w.heap.size, 2, none⟩ (.slice ao2 (tF f).kids.length cap2)).heap[w.heap.size]? = some (.cells #[.int .i64 (tF f).kind, .string ⟨(tF f).name.toArray⟩, .slice ao2 (tF f).kids.length cap2] 24 (0, 0))) := (show _ = _ by simp [World.setCell, Array.getElem?_modify, hbv])
      have hkS : Chg (At1 w.heap.size) wr (wr.setCell ⟨w.heap.size, 2, none⟩ (.slice ao2 (tF f).kids.length cap2)) := (Chg.refl (At1 w.heap.size) _).setCell (p := ⟨w.heap.size, 2, none⟩) (fun _ => rfl) _
      have HbR := Lib.hid (hkS.at hbr (fun e => by have e : w.heap.size + 1 = w.heap.size := e; omega))
      have HcS : Hid (Chg Nob w (wr.setCell ⟨w.heap.size, 2, none⟩ (.slice ao2 (tF f).kids.length cap2))) := (show Chg Nob w _ from (hcw.out.any (S := At1 w.heap.size)).trans1 hkS |>.mono (fun i hi e => by have e : i = w.heap.size := e; omega))
      have hnot : ∀ b, NewIn R W wr b → ¬ At1 w.heap.size b := fun b hb e => by
        have e : b = w.heap.size := e
        have := HsW.out
        rcases hb with hb | hb
        · have := HR.out b hb; omega
        · omega
      have HTS := Lib.hid (IsTree.chg HT.out hkS hnot)
      have HKS : Hid (IsKids (NewIn R W wr) (wr.setCell ⟨w.heap.size, 2, none⟩ (.slice ao2 (tF f).kids.length cap2)) ao2 0 (tF (midF f)).kids) := (show IsKids _ _ _ _ _ from IsKids.mono (fun a v hb h => hkS.cell' h (hnot _ hb)) (fun _ h => h) _ _ _ Hkids.out)
      have HsS : Hid ((wr.setCell ⟨w.heap.size, 2, none⟩ (.slice ao2 (tF f).kids.length cap2)).heap.size = wr.heap.size) := (show _ = _ by simp [World.setCell])
      have hszz : Hid (w.heap.size + 2 ≤ wr.heap.size) := hsr
      clear hbv hbr hkS hnot HT Hkids Hc HO hcw hsr
      go_upto_region 8 with fail
      generalize (wr.setCell ⟨w.heap.size, 2, none⟩ (.slice ao2 (tF f).kids.length cap2)) = X at *
      clear f0 f1 f2 v0 v1 v2
      have hXl : Hid (∀ b, NewIn R W wr b → b < X.heap.size) := (show ∀ b, NewIn R W wr b → b < X.heap.size from fun b hb => by
        have h1 := HsW.out
        have h2 := hszz.out
        have h3 := HsS.out
        rcases hb with hb | hb
        · have := HR.out b hb; omega
        · omega)
      obtain ⟨v0, v1, v2, _⟩ := cells_three HbV.out
      cases f with
      | tt =>
        exact absurd hun Bool.false_ne_true
      | ff =>
        exact absurd hun Bool.false_ne_true
      | pr n =>
        have h8 : ((tF (.pr n)).kind == 8) = false := rfl
        have h9 : ((tF (.pr n)).kind == 9) = false := rfl
        have h5 : ((tF (.pr n)).kind == 5) = false := rfl
        have h12 : ((tF (.pr n)).kind == 12) = false := rfl
        have h13 : ((tF (.pr n)).kind == 13) = false := rfl
        obtain ⟨r0, r1, r2, f0, f1, f2⟩ := cells_three HbR.out
        have Hfin : Hid (Chg Nob w _) := ((HcS.out).any (S := At1 (w.heap.size + 1))).trans1 (chg_three X (w.heap.size + 1) (.int .i64 (tF (.pr n)).kind) (.string ⟨(tF (.pr n)).name.toArray⟩) (.slice ao2 (tF (.pr n)).kids.length cap2)) |>.mono (fun i hi e => by have e : i = w.heap.size + 1 := e; omega)
        have HT9 : Hid (IsTree _ _ _ _) := fin_store (wc := W) (u0 := (.int .i64 (tF (.pr n)).kind)) (u1 := (.string ⟨(tF (.pr n)).name.toArray⟩)) (u2 := (.slice ao2 (tF (.pr n)).kids.length cap2)) HR.out (by have := HsW.out; omega) (IsTree.mono (fun _ _ _ h => h) (fun b hb => by rcases hb with e | e; exact .inl e; exact .inr ⟨e.1, by have := HsS.out; omega⟩) _ _ HTS.out)
        have HR3 := Lib.hid (block_three_all (HbR.out) (.int .i64 (tF (.pr n)).kind) (.string ⟨(tF (.pr n)).name.toArray⟩) (.slice ao2 (tF (.pr n)).kids.length cap2))
        go_wp2_with fail
        refine bodyPost_ret (results51 rfl HR3.out) rfl ⟨Hfin.out, _, rfl, ?_⟩
        exact HT9.out
      | np n =>
        exact absurd hun Bool.false_ne_true
      | an a b =>
        exact absurd hun Bool.false_ne_true
      | or a b =>
        exact absurd hun Bool.false_ne_true
      | un a b =>
        have h8 : ((tF (.un a b)).kind == 8) = false := rfl
        have h9 : ((tF (.un a b)).kind == 9) = false := rfl
        have h5 : ((tF (.un a b)).kind == 5) = false := rfl
        have h12 : ((tF (.un a b)).kind == 12) = true := rfl
        have h13 : ((tF (.un a b)).kind == 13) = false := rfl
        have hp := untilP_any (PL.smallF a) (PL.smallF b) (NewIn R W wr) X _ hXl.out (show IsTree (NewIn R W wr) X (.node 12 [] [tF (PL.smallF a), tF (PL.smallF b)]) (.agg #[(.int .i64 (tF (.un a b)).kind), (.string ⟨(tF (.un a b)).name.toArray⟩), (.slice ao2 (tF (.un a b)).kids.length cap2)]) from HTS.out)
        have Hp := Lib.hid hp
        clear hp
        go_wp2_with fail
        (with_reducible refine Hp.out.mono ?_)
        rintro e w5 ⟨hc5, v5, rfl, ht5⟩
        obtain ⟨a5, k5, e5⟩ := ht5.agg'
        subst e5
        have Hc5 := Lib.hid hc5
        have HT5 : Hid (IsTree (NewIn R W w5) w5 (tF (PL.untilF (PL.smallF a) (PL.smallF b))) _) := (show IsTree (NewIn R W w5) w5 (tF (PL.untilF (PL.smallF a) (PL.smallF b))) _ from IsTree.mono (fun _ _ _ h => h) (fun b hb => by have h1 := HsW.out; have h2 := hszz.out; have h3 := HsS.out; have h4 := Hc5.out.size; rcases hb with (e | e) | e; exact .inl e; exact .inr ⟨e.1, by omega⟩; exact .inr ⟨by omega, e.2⟩) _ _ ht5)
        have HbR5 := Lib.hid (Hc5.out.at HbR.out (fun e => e))
        clear hc5 ht5 v0 v1 v2
        obtain ⟨r0, r1, r2, f0, f1, f2⟩ := cells_three HbR5.out
        have Hfin : Hid (Chg Nob w _) := ((HcS.out.trans1 Hc5.out).any (S := At1 (w.heap.size + 1))).trans1 (chg_three w5 (w.heap.size + 1) (.int .i64 (tF (PL.untilF (PL.smallF a) (PL.smallF b))).kind) (.string ⟨(tF (PL.untilF (PL.smallF a) (PL.smallF b))).name.toArray⟩) (.slice a5 (tF (PL.untilF (PL.smallF a) (PL.smallF b))).kids.length k5)) |>.mono (fun i hi e => by have e : i = w.heap.size + 1 := e; omega)
        have HT9 : Hid (IsTree _ _ _ _) := fin_store (wc := W) (u0 := (.int .i64 (tF (PL.untilF (PL.smallF a) (PL.smallF b))).kind)) (u1 := (.string ⟨(tF (PL.untilF (PL.smallF a) (PL.smallF b))).name.toArray⟩)) (u2 := (.slice a5 (tF (PL.untilF (PL.smallF a) (PL.smallF b))).kids.length k5)) HR.out (by have := HsW.out; omega) (HT5.out)
        have HR3 := Lib.hid (block_three_all (HbR5.out) (.int .i64 (tF (PL.untilF (PL.smallF a) (PL.smallF b))).kind) (.string ⟨(tF (PL.untilF (PL.smallF a) (PL.smallF b))).name.toArray⟩) (.slice a5 (tF (PL.untilF (PL.smallF a) (PL.smallF b))).kids.length k5))
        go_wp2_with fail
        refine bodyPost_ret (results51 rfl HR3.out) rfl ⟨Hfin.out, _, rfl, ?_⟩
        exact HT9.out
      | re a b =>
        exact absurd hun Bool.false_ne_true
      | nx a =>
        exact absurd hun Bool.false_ne_true
theorem small_any : ∀ (f : F), onlyU f = true → ∀ (R : Nat → Prop) (w : World) (v : Value), (∀ b, R b → b < w.heap.size) → IsTree R w (tF f) v → Calls Tryz.prog 51 #[v] w (FPost R (PL.smallF f) w) := by
  have key : ∀ (n : Nat) (f : F), onlyU f = true → PL.sizeF f ≤ n → ∀ (R : Nat → Prop) (w : World) (v : Value), (∀ b, R b → b < w.heap.size) → IsTree R w (tF f) v → Calls Tryz.prog 51 #[v] w (FPost R (PL.smallF f) w) := by
    intro n
    induction n with
    | zero => intro f _ h; have := PL.sizeF_pos f; omega
    | succ n ih =>
      intro f hun h R w v hR hv
      exact small_step hun (fun g hg => ih g (onlyU_kids hun hg) (by have := kidsF_size hg; omega)) hR hv
  exact fun f hun => key _ f hun (Nat.le_refl _)
end Go.Proofs.YtkgfdgfhpdhhaaaGreat
namespace Go.Proofs.YtkgfdgfhpdhhaaaGreat
open Go.ChangeShapes Go.WideShapes Go.RowKit
open PL (F)
theorem results17 {rb : Nat} {c : Int} {tm : Array Value} {w : World} {x y z : Value} (h2 : tm[2]? = some (.pointer (some ⟨rb, 0, none⟩))) (h3 : tm[3]? = some (.int .i64 c)) (hb : w.heap[rb]? = some (.cells #[x, y, z] 24 (0, 0))) :
    (results Tryz.f17 tm).run Tryz.prog w = .ok (.tuple #[.agg #[x, y, z], .int .i64 c]) w := by
  obtain ⟨c0, c1, c2, _⟩ := cells_three hb
  simp [results, Tryz.results17, go_sem, h2, h3, c0, c1, c2]
def RewOf (t r : T) : Prop := (normN t ≠ 0 ∧ r = .node 0 [] []) ∨ (normN t = 0 ∧ ∃ f, normT t = tF f ∧ okF f ∧ r = tF (PL.smallF f))
theorem norm_plain {t : T} (h : normN t = 0) : ∃ f, normT t = tF f ∧ okF f := by
  have hm : mayT t = true := by
    unfold normN at h
    split at h
    · rename_i hc
      unfold checkN at hc
      split at hc
      · cases hc
      · rename_i hm
        cases hq : mayT t with
        | true => rfl
        | false => exact absurd hq hm
    · rename_i hc; exact absurd h hc
  obtain ⟨f, h1, h2⟩ := nf_tF t hm false
  exact ⟨f, by unfold normT; rw [if_pos h]; exact h1, h2⟩
set_option maxRecDepth 100000 in
set_option maxHeartbeats 4000000 in
theorem Rewrite_any {t : T} {v : Value} {w : World} (hun : ∀ f, normT t = tF f → onlyU f = true) (h : TI w t v) (hN : sizeT t ≤ 1000000) : Calls Tryz.prog 17 #[v] w fun e w' => Chg Nob w w' ∧ ∃ r ao cap, RewOf t r ∧ TI w' r (.agg #[.int .i64 r.kind, .string ⟨r.name.toArray⟩, .slice ao r.kids.length cap]) ∧ e = .returned (.tuple #[.agg #[.int .i64 r.kind, .string ⟨r.name.toArray⟩, .slice ao r.kids.length cap], .int .i64 (normN t)]) := by
  obtain ⟨ao, cap, rfl⟩ := h.agg
  obtain ⟨W, hWe, hcW, hb0, hb1, hsW⟩ := box_two' w (.int .i64 t.kind) (.string ⟨t.name.toArray⟩) (.slice ao t.kids.length cap)
  obtain ⟨c0, c1, c2, _⟩ := cells_three hb0
  rw [hWe] at c0 c1 c2
  have hp := (Normal_any _ t _ W (TI.nob h hcW) hN (fun _ hb => hb)).mono (fun _ _ h => norm_post h)
  have HcW := Lib.hid hcW
  have Hb1 := Lib.hid hb1
  have HsW := Lib.hid hsW
  clear h hcW hb0 hb1 hsW
  go_enter Tryz.func17, Tryz.ntmps17
  go_wp2_with fail
  rw [← hWe]
  clear hWe c0 c1 c2
  (with_reducible refine hp.mono ?_)
  clear hp
  rintro e w2 ⟨hc2, an, cn, hF, rfl⟩
  have hT := IsTree.mono (R' := fun b => W.heap.size ≤ b ∧ b < w2.heap.size) (fun _ _ _ h => h) (fun b hb => hb) _ _ hF.tree
  have Hc2 := Lib.hid hc2
  have HT := Lib.hid hT
  clear hc2 hT
  obtain ⟨n, hn⟩ : ∃ n, n = normN t := ⟨_, rfl⟩
  rw [← hn]
  by_cases h0 : n = 0
  · obtain ⟨f, hf, hok⟩ := norm_plain (t := t) (by rw [← hn]; exact h0)
    subst h0
    rw [hf] at HT ⊢
    have Hn := Lib.hid hn
    have Hf := Lib.hid hf
    have Hok := Lib.hid hok
    have hA : Chg Nob w2 (w2.alloc (.cells #[.int .i64 (tF f).kind, .string ⟨(tF f).name.toArray⟩, .slice an (tF f).kids.length cn] 24)) := (Chg.refl _ _).alloc _
    have hp := small_any f (hun f hf) (fun b => W.heap.size ≤ b ∧ b < w2.heap.size) (w2.alloc (.cells #[.int .i64 (tF f).kind, .string ⟨(tF f).name.toArray⟩, .slice an (tF f).kids.length cn] 24)) _ (fun b hb => by have := hA.size; omega) (IsTree.nob HT.out hA)
    have HA := Lib.hid hA
    have Hp := Lib.hid hp
    clear hn hf hok hA hp
    go_wp2_with fail
    (with_reducible refine Hp.out.mono ?_)
    rintro e w5 ⟨hc5, v5, rfl, ht5⟩
    obtain ⟨a5, k5, e5⟩ := ht5.agg'
    subst e5
    have Hcw5 : Hid (Chg Nob W w5) := (show Chg Nob W w5 from (Hc2.out.trans1 HA.out).trans1 hc5)
    have hbR := Hcw5.out.at Hb1.out (fun e => e)
    obtain ⟨r0, r1, r2, f0, f1, f2⟩ := cells_three hbR
    have k7 := chg_three w5 (w.heap.size + 1) (.int .i64 (tF (PL.smallF f)).kind) (.string ⟨(tF (PL.smallF f)).name.toArray⟩) (.slice a5 (tF (PL.smallF f)).kids.length k5)
    have Hfin : Hid (Chg Nob w _) := ((HcW.out.trans1 Hcw5.out).any (S := At1 (w.heap.size + 1))).trans1 k7 |>.mono (fun i hi e => by have e : i = w.heap.size + 1 := e; omega)
    have HT9 := Lib.hid (IsTree.mono (R' := fun b => b < (((w5.setCell ⟨w.heap.size + 1, 0, none⟩ (.int .i64 (tF (PL.smallF f)).kind)).setCell ⟨w.heap.size + 1, 1, none⟩ (.string ⟨(tF (PL.smallF f)).name.toArray⟩)).setCell ⟨w.heap.size + 1, 2, none⟩ (.slice a5 (tF (PL.smallF f)).kids.length k5)).heap.size) (fun a v hb h => k7.cell' h (fun e => by
      have e : a.block = w.heap.size + 1 := e
      have h1 := HsW.out
      have h2 := Hc2.out.size
      have h3 := HA.out.size
      rcases hb with hb | hb <;> omega)) (fun b hb => by
      have h1 := k7.size
      have h2 := hc5.size
      have h3 := HA.out.size
      rcases hb with hb | hb <;> omega) _ _ ht5)
    have HR3 := Lib.hid (block_three_all hbR (.int .i64 (tF (PL.smallF f)).kind) (.string ⟨(tF (PL.smallF f)).name.toArray⟩) (.slice a5 (tF (PL.smallF f)).kids.length k5))
    clear hbR k7 hc5 ht5
    go_wp2_with fail
    refine bodyPost_ret (results17 rfl rfl HR3.out) rfl ⟨Hfin.out, tF (PL.smallF f), a5, k5, .inr ⟨Hn.out.symm, f, Hf.out, Hok.out, rfl⟩, HT9.out, by rw [← Hn.out]⟩
  · have hne : (n != 0) = true := by rw [bne, beq_eq_false_iff_ne.2 h0]; rfl
    have Hn := Lib.hid hn
    have H0 := Lib.hid h0
    have hA : Chg Nob w2 (w2.alloc (.cells #[.int .i64 (normT t).kind, .string ⟨(normT t).name.toArray⟩, .slice an (normT t).kids.length cn] 24)) := (Chg.refl _ _).alloc _
    have Hcw5 := Lib.hid (Hc2.out.trans1 hA)
    have hbR := Hcw5.out.at Hb1.out (fun e => e)
    obtain ⟨r0, r1, r2, f0, f1, f2⟩ := cells_three hbR
    have k7 := chg_three (w2.alloc (.cells #[.int .i64 (normT t).kind, .string ⟨(normT t).name.toArray⟩, .slice an (normT t).kids.length cn] 24)) (w.heap.size + 1) (.int .i64 0) (.string ⟨#[]⟩) (.slice none 0 0)
    have Hfin : Hid (Chg Nob w _) := ((HcW.out.trans1 Hcw5.out).any (S := At1 (w.heap.size + 1))).trans1 k7 |>.mono (fun i hi e => by have e : i = w.heap.size + 1 := e; omega)
    have HR3 := Lib.hid (block_three_all hbR (.int .i64 0) (.string ⟨#[]⟩) (.slice none 0 0))
    clear hn h0 hA hbR k7
    go_wp2_with fail
    refine bodyPost_ret (results17 rfl rfl HR3.out) rfl ⟨Hfin.out, .node 0 [] [], none, 0, .inl ⟨by rw [← Hn.out]; exact H0.out, rfl⟩, TI.zero _, by rw [← Hn.out]; rfl⟩
end Go.Proofs.YtkgfdgfhpdhhaaaGreat
namespace Go.Proofs.YtkgfdgfhpdhhaaaGreat
section
variable {α : Type}
variable {W : Nat → Option α} {n m p q : Nat}
end
end Go.Proofs.YtkgfdgfhpdhhaaaGreat
namespace Go.Proofs.YtkgfdgfhpdhhaaaGreat
open Go.ChangeShapes Go.WideShapes Go.RowKit
def URow (W : World) (ao : Option Addr) (L : List Int) : Prop := ∀ j x, L[j]? = some x → ∃ a, ao = some a ∧ W.cell? (a.add j) = some (.int .u64 x)
theorem URow.nob {W W' : World} {ao : Option Addr} {L : List Int} (h : URow W ao L) (hc : Chg Nob W W') : URow W' ao L := fun j x hj => by
  obtain ⟨a, e, h2⟩ := h j x hj
  exact ⟨a, e, hc.cell' h2 (fun e => e)⟩
def lcheckN (np nl : Nat) : Int := if nl = 0 ∨ 4096 < np + nl then 100 else 0
theorem box_two (w : World) (a b : Value) : ∃ X, X = w.alloc (.cells #[a, b] 28) ∧ Chg Nob w X ∧ X.heap.size = w.heap.size + 1 ∧ X.heap[w.heap.size]? = some (.cells #[a, b] 28 (0, 0)) := ⟨_, rfl, (Chg.refl _ _).alloc _, World.size_alloc _ _, heap_alloc_new _ _⟩
section
variable {ap al : Option Addr} {cp cl : Nat} {P L : List Int} {w : World}
set_option maxHeartbeats 1000000 in
theorem lcheck_any (np nl : Nat) (hl : np + nl ≤ 10000) : Calls Tryz.prog 31 #[.agg #[.slice ap np cp, .slice al nl cl]] w fun e w' => e = .returned (.int .i64 (lcheckN np nl)) ∧ Chg Nob w w' := by
  obtain ⟨X, hX, hcX, _, hb⟩ := box_two w (.slice ap np cp) (.slice al nl cl)
  obtain ⟨c0, c1, _⟩ := cell_two hb
  rw [hX] at c0 c1 hcX
  have HcX := Lib.hid hcX
  clear hb hcX hX
  by_cases h0 : nl = 0
  · subst h0
    have Hr : Hid (lcheckN np 0 = 100) := if_pos (.inl rfl)
    go_enter Tryz.func31, Tryz.ntmps31
    go_wp2
    go_ret
    exact ⟨by rw [Hr.out]; rfl, HcX.out⟩
  · have h0b : ((nl : Int) == 0) = false := by simpa using h0
    have h0i : ¬ (nl : Int) = 0 := by omega
    have hi : (np : Int) + (nl : Int) ≤ 10000 := by omega
    by_cases hb : 4096 < np + nl
    · have hbi : 4096 < (np : Int) + (nl : Int) := by omega
      have Hr : Hid (lcheckN np nl = 100) := if_pos (.inr hb)
      clear hb h0
      go_enter Tryz.func31, Tryz.ntmps31
      go_wp2
      go_ret
      exact ⟨by rw [Hr.out]; rfl, HcX.out⟩
    · have hbi : ¬ 4096 < (np : Int) + (nl : Int) := by omega
      have Hr : Hid (lcheckN np nl = 0) := if_neg (by omega)
      clear hb h0
      go_enter Tryz.func31, Tryz.ntmps31
      go_wp2
      go_ret
      exact ⟨by rw [Hr.out]; rfl, HcX.out⟩
end
theorem Tryz.info53 : (Tryz.prog.info? 53).map (fun i => (i.zero, i.size, i.bytes)) = some (some (.int .u64 0), 1, 8) := by kernel_rfl
theorem info25_parts : ∃ i, Tryz.prog.info? 53 = some i ∧ i.zero = some (.int .u64 0) ∧ i.size = 1 ∧ i.bytes = 8 := by
  have h := Tryz.info53
  cases hi : Tryz.prog.info? 53 with
  | none => rw [hi] at h; simp at h
  | some i => rw [hi] at h; simp at h; exact ⟨i, rfl, h.1, h.2.1, h.2.2⟩
def uvs (M : List Int) : List Value := M.map (.int .u64)
theorem uvs_one (M : List Int) : ∀ u ∈ uvs M, u.oneCell' = true := by
  intro u hu
  obtain ⟨x, _, rfl⟩ := List.mem_map.1 hu
  rfl
theorem append25 {B : Nat} {w : World} {v : Value} {n : Nat} {xs : List Value} {a : Addr} {M : List Int} (c : Nat) (h : w.ownsRow B 53 1 v n xs) (hB : B ≤ w.heap.size) (hn : n + M.length ≤ 1000000) (hM : ∀ j x, M[j]? = some x → w.cell? (a.add j) = some (.int .u64 x)) :
    ∃ v' w', (Builtin.append_ #[26, 26] 26 #[v, .slice (some a) M.length c]).run Tryz.prog w = .ok v' w' ∧ w'.ownsRow B 53 1 v' (n + M.length) (xs ++ uvs M) ∧ w.grownBy w' v.ownBlock ∧ (v'.ownBlock = v.ownBlock ∨ v'.ownBlock = some w.heap.size) := by
  obtain ⟨i, hi, hz, hs, hb⟩ := info25_parts
  obtain ⟨v', w', h1, h2, h3, _, h5⟩ := run_append_own_at (P := Tryz.prog) w B 26 26 53 i _ 1 8 Tryz.underlying26 hi hz hs hb rfl (by decide) v n _ h a M.length c (uvs M) (by simp [uvs])
    (fun j u hj => by
      unfold uvs at hj
      rw [List.getElem?_map] at hj
      cases hx : M[j]? with
      | none => rw [hx] at hj; cases hj
      | some x => rw [hx] at hj; cases hj; exact hM j x hx) (uvs_one M) (by unfold maxLen; omega) (by omega) hB
  exact ⟨v', w', h1, h2, h3, h5⟩
end Go.Proofs.YtkgfdgfhpdhhaaaGreat
namespace Go.Proofs.YtkgfdgfhpdhhaaaGreat
open Go.ChangeShapes Go.WideShapes Go.RowKit
def bcells (L : List Bool) : Array Value := (L.map Value.bool).toArray
def BBlk (W : World) (g : Nat) (L : List Bool) : Prop := W.heap[g]? = some (.cells (bcells L) 4 (0, 0))
theorem BBlk.cell {W : World} {g : Nat} {L : List Bool} (h : BBlk W g L) {j : Nat} {x : Bool} (hj : L[j]? = some x) : W.cell? ⟨g, j, none⟩ = some (.bool x) :=
  cell_row h j (by unfold bcells; simp [hj])
theorem BBlk.free {W : World} {g : Nat} {L : List Bool} (h : BBlk W g L) (j : Nat) : W.frozen? ⟨g, j, none⟩ = false := by
  unfold World.frozen?
  rw [h]
  simp
theorem BBlk.set {W : World} {g : Nat} {L : List Bool} (h : BBlk W g L) (j : Nat) (x : Bool) : BBlk (W.setCell ⟨g, j, none⟩ (.bool x)) g (L.set j x) := by
  unfold BBlk at *
  simp only [World.setCell, Array.getElem?_modify, h, if_true, Option.map_some, bcells]
  congr 3
  rw [List.map_set]
  simp [List.setIfInBounds_toArray]
theorem BBlk.chg {S : Nat → Prop} {W W' : World} {g : Nat} {L : List Bool} (h : BBlk W g L) (hc : Chg S W W') (hn : ¬ S g) : BBlk W' g L := hc.at h hn
theorem BBlk.lt {W : World} {g : Nat} {L : List Bool} (h : BBlk W g L) : g < W.heap.size := (Array.getElem?_eq_some_iff.1 h).1
theorem Tryz.info4 : (Tryz.prog.info? 4).map (fun i => (i.zero, i.size, i.bytes)) = some (some (.bool false), 1, 1) := by kernel_rfl
theorem made_bools (n : Nat) : madeCells (Value.cells (.bool false)) (n * 1) = bcells (List.replicate n false) := by
  rw [Nat.mul_one]
  show (Array.range n).map (fun _ => _) = _
  unfold bcells
  apply Array.ext
  · simp
  · intro i h1 h2
    simp [Value.cells, Nat.mod_one]
theorem make116 (n : Nat) (hn : n ≤ 10000) (w : World) : (Instr.makeSlice 34 (.int .i64 (n : Int)) (.int .i64 (n : Int))).run Tryz.prog w = .ok (.slice (some ⟨w.heap.size, 0, none⟩) n n) (w.alloc (.cells (bcells (List.replicate n false)) 4)) := by
  have h := Tryz.info4
  cases hi : Tryz.prog.info? 4 with
  | none => rw [hi] at h; simp at h
  | some i =>
    rw [hi] at h
    simp at h
    have hr := run_makeSlice (P := Tryz.prog) (w := w) 34 4 i (.bool false) Tryz.underlying34 hi h.1 .i64 .i64 (n : Int) (n : Int) (by omega) (Int.le_refl _) (by rw [h.2.1]; simp; omega) (by rw [h.2.2]; omega) (by omega)
    rw [h.2.1, Int.toNat_natCast, made_bools] at hr
    exact hr
def TabIs (W : World) (tb : Nat) (nv : Value) (ap : Option Addr) (np cp : Nat) (al : Option Addr) (nl cl n : Nat) : Prop := W.heap[tb]? = some (.cells #[nv, .slice ap np cp, .slice al nl cl, .int .i64 (n : Int)] 99 (0, 0))
theorem TabIs.cells {W : World} {tb : Nat} {nv : Value} {ap : Option Addr} {np cp : Nat} {al : Option Addr} {nl cl n : Nat} (h : TabIs W tb nv ap np cp al nl cl n) :
    W.cell? ⟨tb, 0, none⟩ = some nv ∧ W.cell? ⟨tb, 1, none⟩ = some (.slice ap np cp) ∧ W.cell? ⟨tb, 2, none⟩ = some (.slice al nl cl) ∧ W.cell? ⟨tb, 3, none⟩ = some (.int .i64 (n : Int)) := by
  unfold TabIs at h
  simp [World.cell?, h]
section
variable {tb : Nat} {nv : Value} {ap al : Option Addr} {np cp nl cl n : Nat} {w : World}
set_option maxRecDepth 100000 in
set_option maxHeartbeats 2000000 in
theorem tnext_any (hT : TabIs w tb nv ap np cp al nl cl n) (i : Nat) (hi : i < n) (hn : n ≤ 10000) (hnp : np ≤ 10000) (r : Nat) (hr : r = if i + 1 = n then np else i + 1) :
    Calls Tryz.prog 103 #[.pointer (some ⟨tb, 0, none⟩), .int .i64 (i : Int)] w fun e w' => e = .returned (.int .i64 (r : Int)) ∧ w' = w := by
  obtain ⟨t0, t1, t2, t3⟩ := hT.cells
  clear hT
  have hi0 : (0 : Int) ≤ (i : Int) := by omega
  have hi1 : (i : Int) + 1 ≤ 10000 := by omega
  by_cases h : i + 1 = n
  · have hb : ((i : Int) + 1 == (n : Int)) = true := by rw [beq_iff_eq]; omega
    rw [if_pos h] at hr
    subst hr
    clear h hi
    go_enter Tryz.func103, Tryz.ntmps103
    go_wp2
    go_ret
    exact ⟨rfl, rfl⟩
  · have hb : ((i : Int) + 1 == (n : Int)) = false := by rw [beq_eq_false_iff_ne]; omega
    have hri : (i : Int) + 1 = (r : Int) := by rw [if_neg h] at hr; omega
    clear h hi hr
    go_enter Tryz.func103, Tryz.ntmps103
    go_wp2
    go_ret
    exact ⟨by rw [← hri]; rfl, rfl⟩
set_option maxRecDepth 100000 in
set_option maxHeartbeats 4000000 in
theorem each_any (hT : TabIs w tb nv ap np cp al nl cl n) (hn : n ≤ 10000) (k : Nat) (caps : Array Value) (hent : ∀ args w, (callFunc k args).run Tryz.prog w = .ok (.enter k args) w) (s : Nat → Bool) (hs : ∀ i, i < n → ∀ W, Chg Nob w W → Calls Tryz.prog k (#[.int .i64 (i : Int)] ++ caps) W fun e W' => e = .returned (.bool (s i)) ∧ Chg Nob W W') :
    Calls Tryz.prog 97 #[.pointer (some ⟨tb, 0, none⟩), .func (.func k) #[] caps] w fun e w' => Chg Nob w w' ∧ ∃ g, w.heap.size ≤ g ∧ e = .returned (.slice (some ⟨g, 0, none⟩) n n) ∧ BBlk w' g ((List.range n).map s) := by
  obtain ⟨t0, t1, t2, t3⟩ := hT.cells
  have HT := Lib.hid hT
  have Hs := Lib.hid hs
  have hmk := make116 n hn
  have hni : (n : Int) ≤ 10000 := by omega
  clear hT hs
  go_enter Tryz.func97, Tryz.ntmps97
  go_wp2_with fail
  clear hmk t0 t1 t2 t3
  have hW : Chg Nob w (w.alloc (.cells (bcells (List.replicate n false)) 4)) := (Chg.refl _ _).alloc _
  have hb : BBlk (w.alloc (.cells (bcells (List.replicate n false)) 4)) w.heap.size (List.replicate n false) := heap_alloc_new _ _
  have HW := Lib.hid hW
  have Hb := Lib.hid hb
  have hsz : (w.alloc (.cells (bcells (List.replicate n false)) 4)).heap.size = w.heap.size + 1 := World.size_alloc _ _
  have Hsz := Lib.hid hsz
  clear hW hb hsz
  generalize (w.alloc (.cells (bcells (List.replicate n false)) 4)) = W0 at *
  go_loopw [6, 14] (fun _ iv wr => ∃ i : Nat, iv = .int .i64 (i : Int) ∧ i ≤ n ∧ Chg (At1 w.heap.size) W0 wr ∧ ∃ L, Hid (BBlk wr w.heap.size L ∧ L.length = n ∧ ∀ j, j < i → L[j]? = some (s j))) (fun _ iv _ => n - (intOf iv).toNat)
  case atStart => exact ⟨0, rfl, Nat.zero_le _, Chg.refl _ _, _, Hb.out, List.length_replicate, fun j h => absurd h (Nat.not_lt_zero j)⟩
  case round =>
    obtain ⟨i, rfl, hi, hcr, L, hL⟩ := hrel
    by_cases hlt : i < n
    · have hii : (i : Int) < (n : Int) := by omega
      have hi0 : (0 : Int) ≤ (i : Int) := by omega
      have hcw : Chg Nob w wr := HW.out.trans hcr (fun k hk e => by have e : k = w.heap.size := e; omega)
      have hp := Hs.out i hlt wr hcw
      have Hp := Lib.hid hp
      clear hp
      obtain ⟨hB, hLl, hLs⟩ := hL.out
      have HB := Lib.hid hB
      have HLs : Hid (∀ j, j < i + 1 → (L.set i (s i))[j]? = some (s j)) := (show ∀ j, j < i + 1 → (L.set i (s i))[j]? = some (s j) from fun j hj => by
        by_cases e : j = i
        · subst e; rw [List.getElem?_set_self (by omega)]
        · rw [List.getElem?_set_ne (Ne.symm e)]; exact hLs j (by omega))
      have HLl : Hid ((L.set i (s i)).length = n) := (show (L.set i (s i)).length = n by rw [List.length_set]; exact hLl)
      obtain ⟨x, hx⟩ : ∃ x, L[i]? = some x := ⟨_, List.getElem?_eq_getElem (by omega)⟩
      have Hx := Lib.hid hx
      clear hB hLl hLs hL hx
      go_wp2_with fail
      (with_reducible refine Hp.out.mono ?_)
      clear Hp
      rintro e W' ⟨rfl, hcW'⟩
      have hB' := HB.out.chg hcW' (fun e => e)
      have c0 := hB'.cell Hx.out
      have f0 := hB'.free i
      have HB2 := Lib.hid (hB'.set i (s i))
      have hset : Chg (At1 w.heap.size) W0 (W'.setCell ⟨w.heap.size, i, none⟩ (.bool (s i))) := (hcr.trans1 hcW'.any).setCell (p := ⟨w.heap.size, i, none⟩) (fun _ => rfl) _
      have Hset := Lib.hid hset
      clear hB' hset hcW' hcr hcw
      go_wp2_with fail
      go_roundw
      case rel => exact ⟨i + 1, by go_num, by omega, Hset.out, _, HB2.out, HLl.out, HLs.out⟩
      case measure => simp [intOf]; omega
    · obtain rfl : i = n := by omega
      obtain ⟨hB, hLl, hLs⟩ := hL.out
      have hLe : L = (List.range i).map s := by
        refine List.ext_getElem? (fun j => ?_)
        rcases Nat.lt_or_ge j i with h | h
        · rw [hLs j h, List.getElem?_map, List.getElem?_range h]; rfl
        · rw [List.getElem?_eq_none_iff.2 (by omega), List.getElem?_eq_none_iff.2 (by rw [List.length_map, List.length_range]; omega)]
      have HB : Hid (BBlk wr w.heap.size ((List.range i).map s)) := (show BBlk wr w.heap.size _ from hLe ▸ hB)
      have Hc : Hid (Chg Nob w wr) := (show Chg Nob w wr from HW.out.trans hcr (fun k hk e => by have e : k = w.heap.size := e; omega))
      clear hB hLl hLs hL hLe hcr
      go_wp2
      go_ret
      exact ⟨Hc.out, _, Nat.le_refl _, rfl, HB.out⟩
end
end Go.Proofs.YtkgfdgfhpdhhaaaGreat
namespace Go.Proofs.YtkgfdgfhpdhhaaaGreat
open Go.ChangeShapes Go.WideShapes Go.RowKit
section
variable {tb ga gb : Nat} {nv : Value} {ap al : Option Addr} {np cp nl cl n : Nat} {w : World} {A B : List Bool}
set_option maxRecDepth 100000 in
set_option maxHeartbeats 4000000 in
theorem both_any (hA : BBlk w ga A) (hB : BBlk w gb B) (hla : A.length = n) (hlb : B.length = n) (hn : n ≤ 10000) (k : Nat) (hent : ∀ args w, (callFunc k args).run Tryz.prog w = .ok (.enter k args) w) (s : Bool → Bool → Bool)
    (hs : ∀ x y W, Calls Tryz.prog k #[.bool x, .bool y] W fun e W' => e = .returned (.bool (s x y)) ∧ Chg Nob W W') :
    Calls Tryz.prog 105 #[.slice (some ⟨ga, 0, none⟩) n n, .slice (some ⟨gb, 0, none⟩) n n, .func (.func k) #[] #[]] w fun e w' => Chg Nob w w' ∧ ∃ g, w.heap.size ≤ g ∧ e = .returned (.slice (some ⟨g, 0, none⟩) n n) ∧ BBlk w' g (List.zipWith s A B) := by
  have HA := Lib.hid hA
  have HBr := Lib.hid hB
  have Hla := Lib.hid hla
  have Hlb := Lib.hid hlb
  have Hs := Lib.hid hs
  have hmk := make116 n hn
  have hni : (n : Int) ≤ 10000 := by omega
  have hga := hA.lt
  have hgb := hB.lt
  clear hA hB hla hlb hs
  go_enter Tryz.func105, Tryz.ntmps105
  go_wp2_with fail
  clear hmk
  have hW : Chg Nob w (w.alloc (.cells (bcells (List.replicate n false)) 4)) := (Chg.refl _ _).alloc _
  have hb : BBlk (w.alloc (.cells (bcells (List.replicate n false)) 4)) w.heap.size (List.replicate n false) := heap_alloc_new _ _
  have HW := Lib.hid hW
  have Hb := Lib.hid hb
  clear hW hb
  generalize (w.alloc (.cells (bcells (List.replicate n false)) 4)) = W0 at *
  go_loopw [8, 14] (fun _ iv wr => ∃ i : Nat, iv = .int .i64 (i : Int) ∧ i ≤ n ∧ Chg (At1 w.heap.size) W0 wr ∧ ∃ L, Hid (BBlk wr w.heap.size L ∧ L.length = n ∧ ∀ j, j < i → L[j]? = (List.zipWith s A B)[j]?)) (fun _ iv _ => n - (intOf iv).toNat)
  case atStart => exact ⟨0, rfl, Nat.zero_le _, Chg.refl _ _, _, Hb.out, List.length_replicate, fun j h => absurd h (Nat.not_lt_zero j)⟩
  case round =>
    obtain ⟨i, rfl, hi, hcr, L, hL⟩ := hrel
    by_cases hlt : i < n
    · have hii : (i : Int) < (n : Int) := by omega
      have hi0 : (0 : Int) ≤ (i : Int) := by omega
      have hcw : Chg Nob w wr := HW.out.trans hcr (fun k hk e => by have e : k = w.heap.size := e; omega)
      obtain ⟨x, hx⟩ : ∃ x, A[i]? = some x := ⟨_, List.getElem?_eq_getElem (by rw [Hla.out]; exact hlt)⟩
      obtain ⟨y, hy⟩ : ∃ y, B[i]? = some y := ⟨_, List.getElem?_eq_getElem (by rw [Hlb.out]; exact hlt)⟩
      have hz2 : (List.zipWith s A B)[i]? = some (s x y) := by rw [List.getElem?_zipWith, hx, hy]
      obtain ⟨hB, hLl, hLs⟩ := hL.out
      have HB := Lib.hid hB
      have HLs : Hid (∀ j, j < i + 1 → (L.set i (s x y))[j]? = (List.zipWith s A B)[j]?) := (show ∀ j, j < i + 1 → (L.set i (s x y))[j]? = (List.zipWith s A B)[j]? from fun j hj => by
        by_cases e : j = i
        · subst e; rw [List.getElem?_set_self (by omega), hz2]
        · rw [List.getElem?_set_ne (Ne.symm e)]; exact hLs j (by omega))
      have HLl : Hid ((L.set i (s x y)).length = n) := (show (L.set i (s x y)).length = n by rw [List.length_set]; exact hLl)
      obtain ⟨z, hz⟩ : ∃ z, L[i]? = some z := ⟨_, List.getElem?_eq_getElem (by omega)⟩
      have Hz := Lib.hid hz
      have hSx : Hid (∀ w', Chg Nob wr w' → w'.cell? ⟨ga, i, none⟩ = some (.bool x) ∧ w'.cell? ⟨gb, i, none⟩ = some (.bool y)) := fun w' h => ⟨(HA.out.chg (hcw.trans1 h) (fun e => e)).cell hx, (HBr.out.chg (hcw.trans1 h) (fun e => e)).cell hy⟩
      obtain ⟨d0, e0⟩ := hSx.out wr (Chg.refl _ _)
      clear hB hLl hLs hL hz hz2 hx hy hcw
      go_wp2_with fail
      refine wp_region_free (fun j => j != 13) (fun w' => w'.cell? ⟨ga, i, none⟩ = some (.bool x) ∧ w'.cell? ⟨gb, i, none⟩ = some (.bool y)) (by kernel_rfl) ⟨d0, e0⟩ (fun hHeld => ?_)
      refine wpAnyG_take (i := 0) (v := ?_) rfl (by kernel_rfl) (fun _ _ _ h => h) (Or.inl ⟨by rfl, ?_⟩) hHeld ?_
      rotate_left
      · intro w hSw; obtain ⟨d0, e0⟩ := hSw; go_simp; (try (with_reducible rfl))
      simp only [Act.put, List.setIfInBounds_toArray]
      refine wpAnyG_take (i := 1) (v := ?_) rfl (by kernel_rfl) (fun _ _ _ h => h) (Or.inl ⟨by rfl, ?_⟩) hHeld ?_
      rotate_left
      · intro w hSw; obtain ⟨d0, e0⟩ := hSw; go_simp; (try (with_reducible rfl))
      try simp only [Act.put]
      refine wpAnyG_take (i := 2) (v := ?_) rfl (by kernel_rfl) (fun _ _ _ h => h) (Or.inl ⟨by rfl, ?_⟩) hHeld ?_
      rotate_left
      · intro w hSw; obtain ⟨d0, e0⟩ := hSw; go_simp; (try (with_reducible rfl))
      try simp only [Act.put]
      refine wpAnyG_take (i := 3) (v := ?_) rfl (by kernel_rfl) (fun _ _ _ h => h) (Or.inl ⟨by rfl, ?_⟩) hHeld ?_
      rotate_left
      · intro w hSw; obtain ⟨d0, e0⟩ := hSw; go_simp; (try (with_reducible rfl))
      try simp only [Act.put]
      refine wpAnyG_take (i := 4) (v := ?_) rfl (by kernel_rfl) (fun _ _ _ h => h) (Or.inl ⟨by kernel_rfl, ?_⟩) hHeld ?_
      rotate_left
      · intro w hSw; obtain ⟨d0, e0⟩ := hSw; go_simp; (try (with_reducible rfl))
      try simp only [Act.put]
      refine wpAnyG_take (i := 5) (v := ?_) rfl (by kernel_rfl) (fun _ _ _ h => h) (Or.inl ⟨by kernel_rfl, ?_⟩) hHeld ?_
      rotate_left
      · intro w hSw; obtain ⟨d0, e0⟩ := hSw; go_simp; (try (with_reducible rfl))
      try simp only [Act.put]
      refine wpAnyG_take (i := 6) (v := ?_) rfl (by kernel_rfl) (fun _ _ _ h => h) (Or.inl ⟨by kernel_rfl, ?_⟩) hHeld ?_
      rotate_left
      · intro w hSw; obtain ⟨d0, e0⟩ := hSw; go_simp; (try (with_reducible rfl))
      try simp only [Act.put]
      refine wpAnyG_take (i := 7) (v := ?_) rfl (by kernel_rfl) (fun _ _ _ h => h) (Or.inl ⟨by kernel_rfl, ?_⟩) hHeld ?_
      rotate_left
      · intro w hSw; obtain ⟨d0, e0⟩ := hSw; go_simp; (try (with_reducible rfl))
      try simp only [Act.put]
      refine wpAnyG_take (i := 8) (v := ?_) rfl (by kernel_rfl) (fun _ _ _ h => h) (Or.inl ⟨by kernel_rfl, ?_⟩) hHeld ?_
      rotate_left
      · intro w hSw; obtain ⟨d0, e0⟩ := hSw; go_simp; (try (with_reducible rfl))
      try simp only [Act.put]
      refine wpAnyG_take (i := 9) (v := ?_) rfl (by kernel_rfl) (fun _ _ _ h => h) (Or.inl ⟨by kernel_rfl, ?_⟩) hHeld ?_
      rotate_left
      · intro w hSw; obtain ⟨d0, e0⟩ := hSw; go_simp; (try (with_reducible rfl))
      try simp only [Act.put]
      refine wpAnyG_take (i := 10) (v := ?_) rfl (by kernel_rfl) (fun _ _ _ h => h) (Or.inl ⟨by kernel_rfl, ?_⟩) hHeld ?_
      rotate_left
      · intro w hSw; obtain ⟨d0, e0⟩ := hSw; go_simp; (try (with_reducible rfl))
      try simp only [Act.put]
      refine wpAnyG_ready (rs := [11]) (by kernel_rfl) (by simp) ?_
      refine AllReadyG.cons rfl (fun K hK => ?_) AllReadyG.nil
      rw [if_pos (by kernel_rfl)]
      go_simp
      (with_reducible refine (Hs.out x y _).mono ?_)
      rintro e W' ⟨rfl, hcW'⟩
      have hcW' : Chg Nob wr W' := ((Chg.refl Nob wr).drew).trans1 hcW'
      have HcW' := Lib.hid hcW'
      have hH1 := hSx.out W' hcW'
      clear hcW'
      refine hK.out _ _ (fun _ => hSx.out _ HcW'.out) ?_
      clear hK K
      try simp only [Act.put]
      refine wpAnyG_take (i := 12) (v := ?_) rfl (by kernel_rfl) (fun _ _ _ h => h) (Or.inl ⟨by kernel_rfl, ?_⟩) hH1 ?_
      rotate_left
      · intro w hSw; obtain ⟨d0, e0⟩ := hSw; go_simp; (try (with_reducible rfl))
      try simp only [Act.put]
      refine wpAnyG_ready (rs := [13]) (by kernel_rfl) (by simp) ?_
      refine AllReadyG.cons rfl (fun K hK => ?_) AllReadyG.nil
      rw [if_pos (by kernel_rfl)]
      have hB' := HB.out.chg HcW'.out (fun e => e)
      have c0 := hB'.cell Hz.out
      have f0 := hB'.free i
      have HB2 := Lib.hid (hB'.set i (s x y))
      have hset : Chg (At1 w.heap.size) W0 (W'.setCell ⟨w.heap.size, i, none⟩ (.bool (s x y))) := (hcr.trans1 HcW'.out.any).setCell (p := ⟨w.heap.size, i, none⟩) (fun _ => rfl) _
      have Hset := Lib.hid hset
      clear hB' hset
      go_simp
      refine hK.out _ _ (fun h => absurd h (by decide)) ?_
      clear hK K c0 f0
      try simp only [Act.put]
      refine wpAnyG_done (by kernel_rfl) ?_ _
      go_simp
      go_wp2_with fail
      go_roundw
      case rel => exact ⟨i + 1, by go_num, by omega, Hset.out, _, HB2.out, HLl.out, HLs.out⟩
      case measure => simp [intOf]; omega
    · obtain rfl : i = n := by omega
      obtain ⟨hB, hLl, hLs⟩ := hL.out
      have hLe : L = List.zipWith s A B := by
        refine List.ext_getElem? (fun j => ?_)
        rcases Nat.lt_or_ge j i with h | h
        · exact hLs j h
        · rw [List.getElem?_eq_none_iff.2 (by omega), List.getElem?_eq_none_iff.2 (by rw [List.length_zipWith, Hla.out, Hlb.out]; omega)]
      have HB : Hid (BBlk wr w.heap.size (List.zipWith s A B)) := (show BBlk wr w.heap.size _ from hLe ▸ hB)
      have Hc : Hid (Chg Nob w wr) := (show Chg Nob w wr from HW.out.trans hcr (fun k hk e => by have e : k = w.heap.size := e; omega))
      clear hB hLl hLs hL hLe hcr
      go_wp2
      go_ret
      exact ⟨Hc.out, _, Nat.le_refl _, rfl, HB.out⟩
def nextN (np n i : Nat) : Nat := if i + 1 = n then np else i + 1
def updL (np n : Nat) (A B L : List Bool) (i : Nat) : List Bool := L.set i (A.getD i false || (B.getD i false && L.getD (nextN np n i) false))
def sweepTo (np n : Nat) (A B : List Bool) : Nat → List Bool → List Bool
  | 0, L => L
  | m + 1, L => sweepTo np n A B m (updL np n A B L m)
def fixL (np n : Nat) (A B : List Bool) (b : Bool) : List Bool := sweepTo np n A B n (sweepTo np n A B n (List.replicate n b))
def sweeps (np n : Nat) (A B : List Bool) : Nat → List Bool → List Bool
  | 0, L => L
  | r + 1, L => sweeps np n A B r (sweepTo np n A B n L)
theorem fix1_any (w : World) (g : Nat) (x : Bool) (i : Int) (hb : w.cell? ⟨g, 0, none⟩ = some (.bool x)) : Calls Tryz.prog 151 #[.int .i64 i, .pointer (some ⟨g, 0, none⟩)] w fun e w' => e = .returned (.bool x) ∧ Chg Nob w w' := by
  go_enter Tryz.func151, Tryz.ntmps151
  go_wp2
  go_ret
  exact ⟨rfl, Chg.refl _ _⟩
set_option maxRecDepth 100000 in
set_option maxHeartbeats 8000000 in
theorem fix_any (hT : TabIs w tb nv ap np cp al nl cl n) (hA : BBlk w ga A) (hB : BBlk w gb B) (hla : A.length = n) (hlb : B.length = n) (hn : n ≤ 10000) (hnp : np < n) (b : Bool) :
    Calls Tryz.prog 104 #[.pointer (some ⟨tb, 0, none⟩), .slice (some ⟨ga, 0, none⟩) n n, .slice (some ⟨gb, 0, none⟩) n n, .bool b] w fun e w' => Chg Nob w w' ∧ ∃ g, w.heap.size ≤ g ∧ e = .returned (.slice (some ⟨g, 0, none⟩) n n) ∧ BBlk w' g (fixL np n A B b) := by
  have hmf : ∀ (fn : Fn) (first cap : Array Value) (w : World), (Instr.makeFunc fn first cap).run Tryz.prog w = .ok (.func fn first cap) w := fun _ _ _ _ => rfl
  obtain ⟨X, hX, hcX, hbX⟩ : ∃ X, X = w.alloc (.cells #[.bool b] 4) ∧ Chg Nob w X ∧ X.heap[w.heap.size]? = some (.cells #[.bool b] 4 (0, 0)) := ⟨_, rfl, (Chg.refl _ _).alloc _, heap_alloc_new _ _⟩
  have hp := each_any (w := X) (hcX.at hT (fun e => e)) hn 151 #[.pointer (some ⟨w.heap.size, 0, none⟩)] (enters_of Tryz.func151 (by kernel_rfl) rfl) (fun _ => b) (fun i hi W hW => fix1_any W w.heap.size b i (cell_row (hW.at hbX (fun e => e)) 0 rfl))
  have HT := Lib.hid hT
  have HA := Lib.hid hA
  have HBr := Lib.hid hB
  have Hla := Lib.hid hla
  have Hlb := Lib.hid hlb
  have HcX := Lib.hid hcX
  have hni : (n : Int) ≤ 10000 := by omega
  have hsX : w.heap.size ≤ X.heap.size := hcX.size
  have hga := hA.lt
  have hgb := hB.lt
  have htb : tb < w.heap.size := (Array.getElem?_eq_some_iff.1 hT).1
  clear hA hB hla hlb hT hcX hbX
  go_enter Tryz.func104, Tryz.ntmps104
  go_wp2_with fail
  rw [← hX]
  clear hX
  (with_reducible refine hp.mono ?_)
  clear hp
  rintro e w2 ⟨hc2, g, hg, rfl, hbg⟩
  have hbg0 : BBlk w2 g (List.replicate n b) := by
    rw [show List.replicate n b = (List.range n).map (fun _ => b) by rw [List.map_const', List.length_range]]
    exact hbg
  have Hbg := Lib.hid hbg0
  have Hc2 := Lib.hid (HcX.out.trans1 hc2)
  clear hbg hbg0 hc2
  go_wp2_with fail
  go_loopw [10, 14] (fun _ rv wr => ∃ r : Nat, rv = .int .i64 (r : Int) ∧ r ≤ 2 ∧ Chg (At1 g) w2 wr ∧ ∃ L, Hid (BBlk wr g L ∧ L.length = n ∧ sweeps np n A B (2 - r) L = fixL np n A B b)) (fun _ rv _ => 2 - (intOf rv).toNat)
  case atStart => exact ⟨0, rfl, by omega, Chg.refl _ _, _, Hbg.out, List.length_replicate, rfl⟩
  case round =>
    obtain ⟨r, rfl, hr, hcr, L, hL⟩ := hrel
    have hcw : Chg Nob w wr := Hc2.out.trans hcr (fun k hk e => by have e : k = g := e; omega)
    obtain ⟨t0, t1, t2, t3⟩ := TabIs.cells (hcw.at HT.out (fun e => e))
    by_cases hlt : r < 2
    · have hri : (r : Int) < 2 := by omega
      obtain ⟨hB1, hL1, hS1⟩ := hL.out
      have HL0 : Hid (BBlk wr g L ∧ L.length = n ∧ sweepTo np n A B n L = sweepTo np n A B n L) := ⟨hB1, hL1, rfl⟩
      have Hnext : Hid (∀ L', L' = sweepTo np n A B n L → sweeps np n A B (2 - (r + 1)) L' = fixL np n A B b) := (show ∀ L', L' = sweepTo np n A B n L → sweeps np n A B (2 - (r + 1)) L' = fixL np n A B b from fun L' e => by
        rw [e, ← hS1, show 2 - r = 2 - (r + 1) + 1 by omega]; rfl)
      clear hB1 hL1 hS1 hL
      go_wp2_with fail
      clear t0 t1 t2 t3
      go_loopw [10] (fun kv wr' => ∃ (m : Nat) (iv : Int), kv = .int .i64 iv ∧ iv = (m : Int) - 1 ∧ m ≤ n ∧ Chg (At1 g) w2 wr' ∧ ∃ L', Hid (BBlk wr' g L' ∧ L'.length = n ∧ sweepTo np n A B m L' = sweepTo np n A B n L)) (fun kv _ => (intOf kv + 1).toNat)
      case atStart => exact ⟨n, _, rfl, rfl, Nat.le_refl _, hcr, _, HL0.out.1, HL0.out.2.1, rfl⟩
      case round =>
        clear hcr hcw
        obtain ⟨m, iv, rfl, hiv, hm, hcr, L', hL'⟩ := hrel
        have hcw : Chg Nob w wr := Hc2.out.trans hcr (fun k hk e => by have e : k = g := e; omega)
        obtain ⟨t0, t1, t2, t3⟩ := TabIs.cells (hcw.at HT.out (fun e => e))
        obtain ⟨hB1, hL1, hS1⟩ := hL'.out
        by_cases hm0 : m = 0
        · subst hm0
          have hivn : ¬ (0 : Int) ≤ iv := by omega
          have HN : Hid (BBlk wr g L' ∧ L'.length = n ∧ sweeps np n A B (2 - (r + 1)) L' = fixL np n A B b) := ⟨hB1, hL1, Hnext.out L' hS1⟩
          clear hB1 hL1 hS1 hL' hiv
          go_wp2_with fail
          go_roundw
          case rel => exact ⟨r + 1, by go_num, by omega, hcr, L', HN⟩
          case measure => simp [intOf]; omega
        · obtain ⟨i, rfl⟩ : ∃ i, m = i + 1 := ⟨m - 1, by omega⟩
          obtain rfl : iv = (i : Int) := by omega
          have hi0 : (0 : Int) ≤ (i : Int) := by omega
          have hin : (i : Int) < (n : Int) := by omega
          have hil : i < n := by omega
          obtain ⟨q, hq⟩ : ∃ q, q = nextN np n i := ⟨_, rfl⟩
          have hqn : q < n := by rw [hq]; unfold nextN; split <;> omega
          obtain ⟨x, hx⟩ : ∃ x, A[i]? = some x := ⟨_, List.getElem?_eq_getElem (by rw [Hla.out]; exact hil)⟩
          obtain ⟨y, hy⟩ : ∃ y, B[i]? = some y := ⟨_, List.getElem?_eq_getElem (by rw [Hlb.out]; exact hil)⟩
          obtain ⟨z, hz⟩ : ∃ z, L'[q]? = some z := ⟨_, List.getElem?_eq_getElem (by rw [hL1]; exact hqn)⟩
          obtain ⟨v, hv⟩ : ∃ v, L'[i]? = some v := ⟨_, List.getElem?_eq_getElem (by rw [hL1]; exact hil)⟩
          have HR : Hid (∀ u, u = (x || (y && z)) → ∀ W', BBlk W' g (L'.set i u) → (BBlk W' g (L'.set i u) ∧ (L'.set i u).length = n ∧ sweepTo np n A B i (L'.set i u) = sweepTo np n A B n L)) := (show ∀ u, u = (x || (y && z)) → ∀ W', BBlk W' g (L'.set i u) → (BBlk W' g (L'.set i u) ∧ (L'.set i u).length = n ∧ sweepTo np n A B i (L'.set i u) = sweepTo np n A B n L) from fun u hu W' hW' => by
            refine ⟨hW', by rw [List.length_set]; exact hL1, ?_⟩
            rw [← hS1, sweepTo]
            congr 1
            unfold updL
            rw [List.getD_eq_getElem?_getD, List.getD_eq_getElem?_getD, List.getD_eq_getElem?_getD, hx, hy, ← hq, hz, hu]
            rfl)
          have c0 := (HA.out.chg hcw (fun e => e)).cell hx
          have c1 := (HBr.out.chg hcw (fun e => e)).cell hy
          have c2 := hB1.cell hz
          have c3 := hB1.cell hv
          have f3 := hB1.free i
          have hset : ∀ u, Chg (At1 g) w2 (wr.setCell ⟨g, i, none⟩ (.bool u)) := fun u => hcr.setCell (p := ⟨g, i, none⟩) (fun _ => rfl) _
          have Hset := Lib.hid hset
          have Hbs : Hid (∀ u, BBlk (wr.setCell ⟨g, i, none⟩ (.bool u)) g (L'.set i u)) := fun u => hB1.set i u
          have hp := tnext_any (hcw.at HT.out (fun e => e)) i hil hn (by omega) q hq
          have Hp := Lib.hid hp
          have hq0 : (0 : Int) ≤ (q : Int) := by omega
          have hqi : (q : Int) < (n : Int) := by omega
          clear hB1 hL1 hS1 hL' hiv hx hy hz hv hq hset hp hcr hcw
          cases x with
          | true =>
            go_wp2_with fail
            go_roundw
            case rel => exact ⟨i, _, rfl, by omega, by omega, Hset.out _, _, HR.out true rfl _ (Hbs.out true)⟩
            case measure => simp [intOf]
          | false =>
            cases y with
            | false =>
              go_wp2_with fail
              go_roundw
              case rel => exact ⟨i, _, rfl, by omega, by omega, Hset.out _, _, HR.out false rfl _ (Hbs.out false)⟩
              case measure => simp [intOf]
            | true =>
              go_wp2_with fail
              (with_reducible refine Hp.out.mono ?_)
              rintro e w3 ⟨rfl, rfl⟩
              go_wp2_with fail
              go_roundw
              case rel => exact ⟨i, _, rfl, by omega, by omega, Hset.out _, _, HR.out z rfl _ (Hbs.out z)⟩
              case measure => simp [intOf]
    · obtain rfl : r = 2 := by omega
      obtain ⟨hB1, hL1, hS1⟩ := hL.out
      have hLe : L = fixL np n A B b := hS1
      have HB : Hid (BBlk wr g (fixL np n A B b)) := (show BBlk wr g _ from hLe ▸ hB1)
      have Hc := Lib.hid hcw
      clear hB1 hL1 hS1 hL hLe hcr hcw t0 t1 t2 t3
      go_wp2
      go_ret
      exact ⟨Hc.out, _, by omega, rfl, HB.out⟩
end
end Go.Proofs.YtkgfdgfhpdhhaaaGreat
