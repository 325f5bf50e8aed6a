/- Which formulas are the same: by the program, by the reference. Conditions: the trees lie in the world. -/
import Derived.Test.YtkgfdgfhpdhhaaaLev
namespace Go.Proofs.Ytkgfdgfhpdhhaaa
open Go.ChangeShapes Go.WideShapes Go.RowKit

mutual
def sameT : T → T → Bool
  | .node k nm kids, .node k2 nm2 kids2 => (k == k2) && (nm == nm2) && sameL kids kids2
def sameL : List T → List T → Bool
  | [], [] => true
  | t :: ts, u :: us => sameT t u && sameL ts us
  | _, _ => false
end
theorem sameT_eq (t u : T) : sameT t u = ((t.kind == u.kind) && (t.name == u.name) && sameL t.kids u.kids) := by
  cases t; cases u; rw [sameT]; rfl
mutual
theorem sameT_iff : ∀ t u : T, sameT t u = true ↔ t = u
  | .node k nm kids, .node k2 nm2 kids2 => by
    rw [sameT, Bool.and_eq_true, Bool.and_eq_true, beq_iff_eq, beq_iff_eq, sameL_iff kids kids2]
    constructor
    · rintro ⟨⟨rfl, rfl⟩, rfl⟩; rfl
    · intro h; cases h; exact ⟨⟨rfl, rfl⟩, rfl⟩
theorem sameL_iff : ∀ l m : List T, sameL l m = true ↔ l = m
  | [], [] => by rw [sameL]; simp
  | t :: ts, u :: us => by
    rw [sameL, Bool.and_eq_true, sameT_iff t u, sameL_iff ts us]
    constructor
    · rintro ⟨rfl, rfl⟩; rfl
    · intro h; cases h; exact ⟨rfl, rfl⟩
  | [], _ :: _ => by rw [sameL] <;> simp
  | _ :: _, [] => by rw [sameL] <;> simp
end
theorem sameT_refl (t : T) : sameT t t = true := (sameT_iff t t).2 rfl
theorem sameL_len {l m : List T} (h : l.length ≠ m.length) : sameL l m = false := by
  rw [Bool.eq_false_iff]
  intro e
  exact h (by rw [(sameL_iff l m).1 e])
theorem sameL_at {l m : List T} {j : Nat} {t u : T} (ht : l[j]? = some t) (hu : m[j]? = some u) (h : sameT t u = false) : sameL l m = false := by
  rw [Bool.eq_false_iff]
  intro e
  have := (sameL_iff l m).1 e
  subst this
  rw [ht] at hu
  cases hu
  rw [sameT_refl] at h
  cases h
theorem sameL_all {l m : List T} (hl : l.length = m.length) (h : ∀ j t u, j < l.length → l[j]? = some t → m[j]? = some u → sameT t u = true) : sameL l m = true := by
  rw [sameL_iff]
  apply List.ext_getElem? 
  intro j
  rcases Nat.lt_or_ge j l.length with hj | hj
  · have h1 := List.getElem?_eq_getElem hj
    have h2 := List.getElem?_eq_getElem (l := m) (i := j) (by omega)
    rw [h1, h2, (sameT_iff _ _).1 (h j _ _ hj h1 h2)]
  · rw [List.getElem?_eq_none hj, List.getElem?_eq_none (by omega)]

/-- What a comparison of two formulas promises. -/
def SameC (f : Nat) (t : T) : Prop := ∀ (R1 R2 : Nat → Prop) (u : T) (v1 v2 : Value) (w : World), IsTree R1 w t v1 → IsTree R2 w u v2 → Calls Try.prog f #[v1, v2] w fun e w' => e = .returned (.bool (sameT t u)) ∧ Chg Nob w w'

set_option maxRecDepth 100000 in
set_option maxHeartbeats 2000000 in
theorem equal_any (ts us : List T) (h : ∀ t ∈ ts, SameC 36 t) (R1 R2 : Nat → Prop) (a1 a2 : Option Addr) (c1 c2 : Nat) (w : World) (hk1 : IsKids R1 w a1 0 ts) (hk2 : IsKids R2 w a2 0 us) (hl1 : ts.length ≤ 9223372036854775807) (_hl2 : us.length ≤ 9223372036854775807) :
    Calls Try.prog 67 #[.slice a1 ts.length c1, .slice a2 us.length c2, .func (.func 36) #[] #[]] w fun e w' => e = .returned (.bool (sameL ts us)) ∧ Chg Nob w w' := by
  have Hk1 := Lib.hid hk1
  have Hk2 := Lib.hid hk2
  have Hh := Lib.hid h
  clear hk1 hk2 h
  by_cases hlen : ts.length = us.length
  · have hle : ((ts.length : Int) != (us.length : Int)) = false := by rw [hlen]; simp
    have hle2 : ((ts.length : Int) == (us.length : Int)) = true := by rw [hlen]; simp
    have Hlen := Lib.hid hlen
    clear hlen
    go_enter Try.func67, Try.ntmps67
    go_wp2_with fail
    go_loopw [17] (fun i wr => ∃ j : Nat, i = .int .i64 j ∧ j ≤ ts.length ∧ Hid (∀ q t u, q < j → ts[q]? = some t → us[q]? = some u → sameT t u = true) ∧ Chg Nob w wr) (fun i _ => ts.length - (intOf i).toNat)
    case atStart => exact ⟨0, rfl, Nat.zero_le _, fun q t u h => absurd h (Nat.not_lt_zero q), Chg.refl _ _⟩
    case round =>
      obtain ⟨j, rfl, hj, hall, hc⟩ := hrel
      by_cases hlt : j < ts.length
      · obtain ⟨t, ht⟩ : ∃ t, ts[j]? = some t := ⟨_, List.getElem?_eq_getElem hlt⟩
        have hltu : j < us.length := by have := Hlen.out; omega
        obtain ⟨u, hu⟩ : ∃ u, us[j]? = some u := ⟨_, List.getElem?_eq_getElem hltu⟩
        obtain ⟨b1, o1, ak1, cap1, hao1, _, p0, p1, p2, _, _, htr1⟩ := Hk1.out.kid ht
        obtain ⟨b2, o2, ak2, cap2, hao2, _, q0, q1, q2, _, _, htr2⟩ := Hk2.out.kid hu
        have p0' := hc.cell' p0 (fun e => e)
        have p1' := hc.cell' p1 (fun e => e)
        have p2' := hc.cell' p2 (fun e => e)
        have hA : Chg Nob wr (wr.alloc (.cells #[.int .i64 t.kind, .string ⟨t.name.toArray⟩, .slice ak1 t.kids.length cap1] 37)) := (Chg.refl _ _).alloc _
        have hA2 : Chg Nob wr ((wr.alloc (.cells #[.int .i64 t.kind, .string ⟨t.name.toArray⟩, .slice ak1 t.kids.length cap1] 37)).alloc (.cells #[.int .i64 u.kind, .string ⟨u.name.toArray⟩, .slice ak2 u.kids.length cap2] 37)) := hA.alloc _
        have q0' := (hc.trans1 hA).cell' q0 (fun e => e)
        have q1' := (hc.trans1 hA).cell' q1 (fun e => e)
        have q2' := (hc.trans1 hA).cell' q2 (fun e => e)
        have hcall := Hh.out t (List.mem_of_getElem? ht) R1 R2 u _ _ _ (htr1.nob (hc.trans1 hA2)) (htr2.nob (hc.trans1 hA2))
        have hki : (j : Int) < (ts.length : Int) := by omega
        have hku : (j : Int) < (us.length : Int) := by omega
        have hk0 : (0 : Int) ≤ (j : Int) := by omega
        have Ht := Lib.hid ht
        have Hu := Lib.hid hu
        clear p0 p1 p2 q0 q1 q2 htr1 htr2 ht hu
        subst hao1 hao2
        go_wp2_with fail
        (with_reducible refine hcall.mono ?_)
        clear hcall
        rintro e w3 ⟨rfl, hc3⟩
        have hcw := (hc.trans1 hA2).trans1 hc3
        cases hs : sameT t u with
        | true =>
          clear p0' p1' p2' q0' q1' q2'
          go_wp2_with fail
          go_roundw
          case rel => first | exact ⟨j + 1, by go_num, by omega, (show ∀ q t u, q < j + 1 → ts[q]? = some t → us[q]? = some u → sameT t u = true from fun q t' u' hq h1 h2 => by
              by_cases e : q = j
              · subst e
                rw [Ht.out] at h1; cases h1
                rw [Hu.out] at h2; cases h2
                exact hs
              · exact hall.out q t' u' (by omega) h1 h2), hcw⟩ | ((repeat apply Exists.intro); exact ⟨⟨j + 1, by go_num, by omega, (show ∀ q t u, q < j + 1 → ts[q]? = some t → us[q]? = some u → sameT t u = true from fun q t' u' hq h1 h2 => by
              by_cases e : q = j
              · subst e
                rw [Ht.out] at h1; cases h1
                rw [Hu.out] at h2; cases h2
                exact hs
              · exact hall.out q t' u' (by omega) h1 h2), hcw⟩, rfl⟩)
          case measure => simp [intOf]; omega
        | false =>
          have Hr := Lib.hid (sameL_at Ht.out Hu.out hs)
          clear p0' p1' p2' q0' q1' q2'
          go_wp2
          go_ret
          exact ⟨by rw [Hr.out]; rfl, hcw⟩
      · obtain rfl : j = ts.length := by omega
        have Hr := Lib.hid (sameL_all Hlen.out (fun q t u hq h1 h2 => hall.out q t u hq h1 h2))
        go_wp2
        go_ret
        exact ⟨by rw [Hr.out]; rfl, hc⟩
  · have hle : ((ts.length : Int) != (us.length : Int)) = true := by simp; omega
    have hle2 : ((ts.length : Int) == (us.length : Int)) = false := by simp; omega
    have Hr := Lib.hid (sameL_len hlen)
    clear hlen
    go_enter Try.func67, Try.ntmps67
    go_wp2
    go_ret
    exact ⟨by rw [Hr.out]; rfl, Chg.refl _ _⟩

set_option maxRecDepth 100000 in
set_option maxHeartbeats 2000000 in
theorem same_any : ∀ t : T, SameC 36 t := by
  refine kid_induct ?_
  intro t ih R1 R2 u v1 v2 w ht hu
  obtain ⟨a1, c1, rfl, hl1, hk1⟩ := ht.parts
  obtain ⟨a2, c2, rfl, hl2, hk2⟩ := hu.parts
  have hA2 : Chg Nob w ((w.alloc (.cells #[.int .i64 t.kind, .string ⟨t.name.toArray⟩, .slice a1 t.kids.length c1] 37)).alloc (.cells #[.int .i64 u.kind, .string ⟨u.name.toArray⟩, .slice a2 u.kids.length c2] 37)) := ((Chg.refl _ _).alloc _).alloc _
  have hcall := equal_any t.kids u.kids ih R1 R2 a1 a2 c1 c2 _ (IsKids.mono (fun _a _ _ hv => hA2.cell' hv (fun e => e)) (fun _ e => e) _ _ _ hk1) (IsKids.mono (fun _a _ _ hv => hA2.cell' hv (fun e => e)) (fun _ e => e) _ _ _ hk2) hl1 hl2
  have Heq := Lib.hid (sameT_eq t u)
  clear ih ht hu hk1 hk2
  cases hk : (t.kind == u.kind) with
  | false =>
    have Hr : Hid (sameT t u = false) := by show _ = _; rw [Heq.out, hk]; rfl
    go_enter Try.func36, Try.ntmps36
    go_wp2
    go_ret
    exact ⟨by rw [Hr.out]; rfl, hA2⟩
  | true =>
    cases hn : (t.name == u.name) with
    | false =>
      have Hr : Hid (sameT t u = false) := by show _ = _; rw [Heq.out, hk, hn]; rfl
      go_enter Try.func36, Try.ntmps36
      go_wp2
      go_ret
      exact ⟨by rw [Hr.out]; rfl, hA2⟩
    | true =>
      have Hr : Hid (sameT t u = sameL t.kids u.kids) := by show _ = _; rw [Heq.out, hk, hn]; rfl
      go_enter Try.func36, Try.ntmps36
      go_wp2_with fail
      (with_reducible refine hcall.mono ?_)
      clear hcall
      rintro e w3 ⟨rfl, hc3⟩
      go_wp2
      go_ret
      exact ⟨by rw [Hr.out]; rfl, hA2.trans1 hc3⟩
end Go.Proofs.Ytkgfdgfhpdhhaaa
