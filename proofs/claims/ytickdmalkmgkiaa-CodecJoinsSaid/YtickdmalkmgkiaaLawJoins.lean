/- The law CodecJoins: whatever the text, it returns true. No condition. -/
import Derived.Test.YtickdmalkmgkiaaLiter
import Derived.Test.YtickdmalkmgkiaaPcatch
import Derived.ProofKit
import Derived.OpenShut
import Derived.ShutString
import Derived.SizedLaws
namespace Go.Proofs.Ytickdmalkmgkiaa.codecJoins
open Go.ChangeShapes Go.WideShapes Go.RowKit Go.Shelf
open Go.ChangeMaps (open_string shut_string)
attribute [local go_sem] Oper.semAt_some

theorem own : ownKnob Try.prog.godebug = none := by kernel_rfl
theorem laidOut : laidOutB Try.prog = true := by kernel_rfl

theorem _root_.Go.Proofs.Ytickdmalkmgkiaa.isBuf.kept {S : Nat → Prop} {w w' : World} {B b : Nat} {l : List UInt8} {room : Nat} (h : isBuf w B b l room) (hc : Chg S w w') (hs : ∀ k cs t m, w.heap[k]? = some (.cells cs t m) → ¬ S k) : isBuf w' B b l room := by
  obtain ⟨a1, a2, v, h1, h3⟩ := h
  exact ⟨a1, a2, v, hc.at h1 (hs _ _ _ _ h1), ownsRow_chg h3 hc (fun k hk => by obtain ⟨cs, m, hb⟩ := ownsRow_block h3 k hk; exact hs _ _ _ _ hb)⟩

/-- Between two rounds. -/
def JI (w : World) (rb pv bb room : Nat) (ls : List (List UInt8)) (pre : List (List UInt8)) (W : World) : Prop :=
  W.heap[rb]? = some (.cells #[.bool false] 4 (0, 0)) ∧ W.heap[pv]? = some (.cells #[.pointer (some ⟨bb, 0, none⟩)] 42 (0, 0)) ∧ (∃ l, isBuf W w.heap.size bb l room ∧ (pre <+: ls → l = joined pre)) ∧ Chg Nob w W

theorem fin8 {n : Nat} {w W : World} {D : Nat} {tm : Array Value} {b0 : Value} (q1 : W.heap[w.heap.size]? = some (.cells #[b0] 4 (0, 0))) (q5 : Chg Nob w W) (hD : w.heap.size < D) (hK : W.heap[D]? = some (.deferred (some [])))
    (h2 : tm[2]? = some (.pointer (some ⟨w.heap.size, 0, none⟩))) :
    bodyPostM Fence.wide n Try.prog Try.f8 (fun e w' => e = Ending.returned (.bool true) ∧ Below w.heap.size w w') Exit.ret { tmps := tm, defers := [{ target := .collected D, args := #[] }] } (W.setCell ⟨w.heap.size, 0, none⟩ (.bool true)) := by
  have hK' := (KeepsOthers.setCell W ⟨w.heap.size, 0, none⟩ (.bool true)).same D _ hK rfl
  have hc := cell_row (block_one_set (u := .bool true) q1) 0 (v := .bool true) rfl
  have hc5 := cell_kept hc (grownBy_putObj' _ D (.deferred none)) (fun r e => by cases e; exact ⟨_, hK', rfl⟩)
  have hset : Chg Nob w (W.setCell ⟨w.heap.size, 0, none⟩ (.bool true)) := q5.setCell (p := ⟨w.heap.size, 0, none⟩) (fun h => by have h : w.heap.size < w.heap.size := h; omega) _
  refine ⟨by simp, .inl ⟨_, _, rfl, run_takeDeferred hK', ?_⟩⟩
  refine ⟨.bool true, ?_, rfl, hset.toBelow.trans (belowK_b (w := w) (Nat.le_refl _) _ D _ _ (by omega) hK' rfl rfl)⟩
  simp [results, Try.results8, go_sem, hc5, h2]

set_option maxRecDepth 100000 in
set_option maxHeartbeats 4000000 in
theorem walk_in (n : Nat) (hn : 4 ≤ n) (s : ByteArray) (hs : s.size ≤ maxLen) (w : World) :
    CallsIn Fence.wide n Try.prog 8 #[.string s] w fun e w' => e = .returned (.bool true) ∧ Below w.heap.size w w' := by
  have h1 : 1 ≤ n := by omega
  unfold maxLen at hs
  refine callsIn_of_wp_marks Try.func8 rfl trivial ?_ rfl
  simp only [Try.ntmps8, List.size_toArray, List.length_cons, List.length_nil, Nat.reduceAdd, Nat.reduceSub, Array.replicate_succ, Array.replicate_zero, List.push_toArray, List.append_toArray, List.nil_append, List.cons_append]
  gi_wp2
  refine ⟨trivial, (callsIn_wide.2 (new_any _ _)).mono ?_⟩
  rintro e w1 ⟨rfl, hnew, hc1, hz1⟩
  obtain ⟨room, hroom⟩ : ∃ r, r = roomOf (wrap64 ((s.size : Int) + 1)) := ⟨_, rfl⟩
  rw [← hroom] at hnew
  have hr0 : (w.alloc (.cells #[.bool false] 4)).heap[w.heap.size]? = some (.cells #[.bool false] 4 (0, 0)) := heap_alloc_new w _
  rw [World.size_alloc] at hnew hz1
  have hr1 := hc1.at hr0 (fun e => e)
  have hc1w : Chg Nob w w1 := ((Chg.refl Nob w).alloc _).trans1 hc1
  have hp2 := heap_alloc_new w1 (.cells #[.pointer (some ⟨w.heap.size + 1, 0, none⟩)] 42)
  have hr2 := ((Chg.refl Nob w1).alloc (.cells #[.pointer (some ⟨w.heap.size + 1, 0, none⟩)] 42)).at hr1 (fun e => e)
  have hn2 := hnew.chg ((Chg.refl Nob w1).alloc (.cells #[.pointer (some ⟨w.heap.size + 1, 0, none⟩)] 42)) (fun e => e)
  have hc2w : Chg Nob w (w1.alloc (.cells #[.pointer (some ⟨w.heap.size + 1, 0, none⟩)] 42)) := hc1w.alloc _
  have Hroom := Lib.hid hroom
  clear hr0 hr1 hnew hc1 hc1w hroom
  rw [World.size_alloc]
  gi_wp2
  generalize (w1.alloc (.cells #[.pointer (some ⟨w.heap.size + 1, 0, none⟩)] 42)) = w2 at *
  rw [hz1] at hp2
  refine ⟨trivial, (callsIn_wide.2 (known_any _)).mono ?_⟩
  rintro e w3 ⟨rfl, hc3⟩
  have hp3 := hc3.at hp2 (fun e => e)
  have hr3 := hc3.at hr2 (fun e => e)
  have hn3 := hn2.chg hc3 (fun e => e)
  have hcw3 := hc2w.trans1 hc3
  clear hp2 hr2 hn2 hc2w hc3 hz1
  have y0 := cell_row hr3 0 (v := .bool false) rfl
  have y1 : w3.frozen? ⟨w.heap.size, 0, none⟩ = false := by unfold World.frozen?; simp [hr3]
  have y2 := cell_row hp3 0 (v := .pointer (some ⟨w.heap.size + 1, 0, none⟩)) rfl
  by_cases hbig : 1048576 < s.size
  · have hbi : (1048576 : Int) < (s.size : Int) := by omega
    gi_wp2
    have hset : Chg Nob w (w3.setCell ⟨w.heap.size, 0, none⟩ (.bool true)) := hcw3.setCell (p := ⟨w.heap.size, 0, none⟩) (fun h => by have h : w.heap.size < w.heap.size := h; omega) _
    have hres := cell_row (block_one_set (u := .bool true) hr3) 0 (v := .bool true) rfl
    refine ⟨.bool true, ?_, rfl, hset.toBelow⟩
    simp [results, Try.results8, go_sem, hres]
  · have hbi : ¬ ((1048576 : Int) < (s.size : Int)) := by omega
    have hrm : room = s.size + 1 := by
      rw [Hroom.out]
      have : wrap64 ((s.size : Int) + 1) = (s.size : Int) + 1 := by unfold wrap64; omega
      rw [this]
      unfold roomOf
      rw [if_neg (by omega), if_neg (by omega)]
      omega
    subst hrm
    clear Hroom
    gi_wp2
    refine ⟨trivial, (callsIn_wide.2 (lines_any _ _)).mono ?_⟩
    rintro e w4 ⟨rfl, rfl⟩
    gi_wp2
    obtain ⟨l, rfl⟩ : ∃ l : List UInt8, s = ⟨l.toArray⟩ := ⟨s.data.toList, rfl⟩
    have hsz : (⟨l.toArray⟩ : ByteArray).size = l.length := by show l.toArray.size = _; simp
    have hbox := cell_row (heap_alloc_new w3 (.cells #[.string ⟨l.toArray⟩] 9)) 0 (v := .string ⟨l.toArray⟩) rfl
    refine wpIn_rangeFunc_ownF rfl h1 (gf := 51) (lb := #[.pointer (some ⟨w3.heap.size, 0, none⟩)]) rfl trivial (enters_of Try.func51 (by kernel_rfl) rfl)
      (lines_stops (n - 1) (by omega) w3.heap.size l (by omega) _ hbox (by simp)) (fun _ _ => trivial) (fun _ _ _ _ _ _ _ _ => trivial) (Below.refl _ _) (fun _ => rfl)
      (JI w w.heap.size (w.heap.size + 1 + 1) (w.heap.size + 1) (l.length + 1) (linesL [] l)) (fun c pre W => c = .ret ∧ ¬ pre <+: linesL [] l) ?hI ?hIx ?h0
      (fun x => { tmps := #[.string ⟨l.toArray⟩, undef, .pointer (some ⟨w.heap.size, 0, none⟩), .pointer (some ⟨w.heap.size + 1 + 1, 0, none⟩), .string ⟨x.toArray⟩, .string ⟨l.toArray⟩, .int .i64 (⟨l.toArray⟩ : ByteArray).size, .int .i64 (wrap64 (((⟨l.toArray⟩ : ByteArray).size : Int) + 1)), .pointer (some ⟨w.heap.size + 1, 0, none⟩), .pointer (some ⟨w.heap.size + 1, 0, none⟩), .bool false, .bool false, .bool true, .bool false, .bool false, .string ⟨l.toArray⟩, .int .i64 (⟨l.toArray⟩ : ByteArray).size, .bool (decide ((1048576 : Int) < ((⟨l.toArray⟩ : ByteArray).size : Int))), .string ⟨l.toArray⟩, .func (Fn.func 51) #[] #[.pointer (some ⟨w3.heap.size, 0, none⟩)], .string ⟨x.toArray⟩, undef, undef, undef, undef, undef, undef, undef, undef, undef, undef, undef, undef, undef, undef, undef, undef, undef, undef, undef, undef, undef, undef, undef], defers := [] }) ?assign ?body ?done ?stop
    case hI =>
      intro pre W W' row hs hg hr
      obtain ⟨q1, q2, ⟨lc, q3, q4⟩, q5⟩ := hs
      have hc : Chg (fun k => row = some k) W W' := (Chg.refl _ _).grown hg (fun k hk _ => hk)
      have hn : ∀ k cs t m, W.heap[k]? = some (.cells cs t m) → ¬ row = some k := fun k cs t m hk e => by
        obtain ⟨_, o, ho, hcells⟩ := hr k e
        rw [hk] at ho; cases ho; cases hcells
      refine ⟨hc.at q1 (hn _ _ _ _ q1), hc.at q2 (hn _ _ _ _ q2), ⟨lc, q3.kept hc hn, q4⟩, q5.grown hg (fun k hk hlt => ?_)⟩
      have h9 := (hr k hk).1
      rw [World.size_alloc] at h9
      have := hcw3.size
      omega
    case hIx => exact fun c pre W W' row hs _ _ => hs
    case h0 =>
      have ha : Chg Nob w3 (w3.alloc (.cells #[.string ⟨l.toArray⟩] 9)) := (Chg.refl _ _).alloc _
      exact ⟨ha.at hr3 (fun e => e), ha.at hp3 (fun e => e), ⟨[], by rw [hsz] at hn3; exact (hn3.chg ha (fun e => e)).buf _, fun _ => rfl⟩, hcw3.trans1 ha⟩
    case assign =>
      intro l' x W K hK
      gi_wp2
      exact hK
    case body =>
      rintro l' pre x W ⟨q1, q2, ⟨lc, q3, q4⟩, q5⟩ hlen
      have z0 := cell_row q2 0 (v := .pointer (some ⟨w.heap.size + 1, 0, none⟩)) rfl
      have z1 := cell_row q1 0 (v := .bool false) rfl
      have z2 : W.frozen? ⟨w.heap.size, 0, none⟩ = false := by unfold World.frozen?; simp [q1]
      have hdl : (⟨x.toArray⟩ : ByteArray).data.toList = x := rfl
      have Hq := Lib.hid (And.intro q1 (And.intro q2 (And.intro q3 (And.intro q4 q5))))
      by_cases hx : (10 : UInt8) ∈ x
      · have hno : ¬ (pre ++ [x]) <+: linesL [] l := fun hp => linesL_clean l [] (by simp) x (hp.subset (by simp)) hx
        have Hno := Lib.hid hno
        have hln := line_no (w.heap.size + 1) ⟨x.toArray⟩ W hx
        clear q1 q2 q3 q4 q5 hno
        gi_wp2
        refine ⟨trivial, fun _ => by omega, (CallsIn.inRound l' (callsIn_wide.2 hln)).mono ?_⟩
        clear hln
        rintro e w5 ⟨rfl, rfl⟩
        gi_wp2
        exact ⟨KeepsOthers.setCell _ _ _, rfl, Hno.out⟩
      · have hln := line_any w.heap.size (w.heap.size + 1) lc (l.length + 1) ⟨x.toArray⟩ W hx q5.size q3
        clear q1 q2 q3 q4 q5
        gi_wp2
        refine ⟨trivial, fun _ => by omega, (CallsIn.inRound l' (callsIn_wide.2 hln)).mono ?_⟩
        clear hln
        rintro e w5 (⟨_, rfl, hc5, hb5⟩ | ⟨hbad, rfl, hc5, hb5⟩)
        · gi_wp2
          obtain ⟨q1, q2, q3, q4, q5⟩ := Hq.out
          refine ⟨⟨hc5.size, fun k o hk ho => hc5.at hk (fun e => ?_)⟩, trivial, hc5.at q1 (BufS.other q1 (by decide) (by omega)), hc5.at q2 (BufS.other q2 (by decide) (by omega)), ⟨_, hb5, fun hp => ?_⟩, q5.trans hc5 (fun i hi e => by rcases e with e | ⟨e, _⟩ <;> omega)⟩
          · obtain ⟨_, _, v, hv, _⟩ := q3
            rcases e with rfl | ⟨_, cs, m, e⟩
            · rw [hv] at hk; cases hk; cases ho
            · rw [e] at hk; cases hk; cases ho
          · rw [q4 ((List.prefix_append _ _).trans hp), joined_snoc]
        · have hno : ¬ (pre ++ [x]) <+: linesL [] l := fun hp => by
            have h1 := Hq.out.2.2.2.1 ((List.prefix_append _ _).trans hp)
            have h2 := joined_prefix hp
            rw [joined_snoc, ← h1, List.length_append] at h2
            have h3 := joined_len l []
            simp only [List.length_nil] at h3
            have h4 : l.length + 1 < lc.length + (x ++ [10]).length := hbad
            rw [List.length_append] at h2 h4
            simp only [List.length_cons, List.length_nil] at h2 h4
            omega
          have Hno := Lib.hid hno
          have k1 := hc5.at Hq.out.1 (fun e => e)
          have z1 := cell_row k1 0 (v := .bool false) rfl
          have z2 : w5.frozen? ⟨w.heap.size, 0, none⟩ = false := by unfold World.frozen?; simp [k1]
          clear hno k1
          gi_wp2
          exact ⟨(KeepsOthers.trans ⟨hc5.size, fun k o hk ho => hc5.at hk (fun e => e)⟩ (KeepsOthers.setCell _ _ _)), rfl, Hno.out⟩
    case done =>
      rintro D xs W hD rfl ⟨q1, q2, ⟨lc, q3, q4⟩, q5⟩ hK
      have hlc := (q4 (List.prefix_refl _)).trans (joined_lines l [])
      rw [List.nil_append] at hlc
      have z0 := cell_row q2 0 (v := .pointer (some ⟨w.heap.size + 1, 0, none⟩)) rfl
      have z1 := cell_row q1 0 (v := .bool false) rfl
      have z2 : W.frozen? ⟨w.heap.size, 0, none⟩ = false := by unfold World.frozen?; simp [q1]
      have hst := string_any _ _ _ _ _ q3
      have hDw : w.heap.size < D := by
        rw [World.size_alloc] at hD
        have := hcw3.size
        omega
      clear q4
      by_cases hnil : l = []
      · subst hnil
        simp at hlc
        subst hlc
        gi_wp2
        refine ⟨trivial, (callsIn_wide.2 hst).mono ?_⟩
        clear hst
        rintro e w5 ⟨rfl, rfl⟩
        gi_wp2
        exact fin8 q1 q5 hDw hK rfl
      · have hpos : 0 < l.length := List.length_pos_iff.2 hnil
        have hemp : l.isEmpty = false := by cases l with
          | nil => exact absurd rfl hnil
          | cons _ _ => rfl
        have hp1 : (1 : Int) ≤ (l.length : Int) := by omega
        have hp2 : (l.length : Int) - 1 < (l.length : Int) := by omega
        have hlt : l.length - 1 < (⟨l.toArray⟩ : ByteArray).size := by omega
        obtain ⟨y, hy⟩ : ∃ y, (⟨l.toArray⟩ : ByteArray)[l.length - 1]'hlt = y := ⟨_, rfl⟩
        have hlast : l.getLast? = some y := by
          have h1 : l[l.length - 1]? = some y := by
            have h2 := Lib.data_getElem? (⟨l.toArray⟩ : ByteArray) _ hlt
            rw [hy] at h2
            exact h2
          rw [List.getLast?_eq_getElem?]
          exact h1
        have Hlast := Lib.hid hlast
        have Hlc := Lib.hid hlc
        clear hlast hlc
        cases hten : ((y.toNat : Int) == 10) with
        | true =>
          have hl2 : lc = l := by
            have hc : l = [] ∨ l.getLast? = some 10 := .inr (by
              rw [Hlast.out]
              rw [beq_iff_eq] at hten
              exact congrArg some (UInt8.toNat_inj.1 (by have : (10 : UInt8).toNat = 10 := rfl; omega)))
            rw [Hlc.out, if_pos hc]
          subst hl2
          gi_wp2
          refine ⟨trivial, (callsIn_wide.2 hst).mono ?_⟩
          clear hst
          rintro e w5 ⟨rfl, rfl⟩
          gi_wp2
          exact fin8 q1 q5 hDw hK rfl
        | false =>
          have hl2 : lc = l ++ [10] := by
            have hc : ¬ (l = [] ∨ l.getLast? = some 10) := by
              rintro (h | h)
              · exact hnil h
              · rw [Hlast.out] at h
                cases h
                exact absurd hten (by decide)
            rw [Hlc.out, if_neg hc]
          subst hl2
          have hcat : ((⟨l.toArray⟩ : ByteArray) ++ ⟨#[10]⟩) = ⟨(l ++ [10]).toArray⟩ := by
            apply ByteArray.ext
            simp [ByteArray.data_append]
          gi_wp2
          refine ⟨trivial, (callsIn_wide.2 hst).mono ?_⟩
          clear hst
          rintro e w5 ⟨rfl, rfl⟩
          gi_wp2
          exact fin8 q1 q5 hDw hK rfl
    case stop =>
      rintro D c pre W _ hpre ⟨_, hno⟩ _
      exact absurd hpre hno

theorem walk (s : ByteArray) (hs : s.size ≤ maxLen) (w : World) : Calls Try.prog 8 #[.string s] w fun e w' => e = .returned (.bool true) ∧ Below w.heap.size w w' :=
  callsIn_wide.1 (walk_in 6 (by omega) s hs w)


set_option maxRecDepth 100000 in
theorem lifted (os : Os) (started : os.Started) (H : Type) (enc : TypeId × Value → H) :
    ReturnsInHanded {} Try.checked os 8 .any (Rows.codecJoinsSpec.pre6 enc Try.prog Try.f8 Rows.codecJoinsRow.domain false) (Rows.codecJoinsSpec.post enc Try.prog Try.f8 false true false false) := by
  refine returnsInHanded_of_change_sized (C := Try.checked) own started (by kernel_rfl) Try.func8
    (ChangeSpec.witness6 (enc := enc) (C := Try.checked) false ⟨#[], #[.string ByteArray.empty], []⟩ 8 (by kernel_rfl) (by kernel_rfl) (by kernel_rfl) (by kernel_rfl)) ?_
  intro W base args ds gs before hval0 hW hcnd hsz0 _
  have hval : ∀ (j : Nat) t v, Try.f8.params[j]? = some t → args[j]? = some v → Value.okWide Try.prog W .any base t v := hval0
  have hsz : (DataW.weightsEach Try.prog (Try.f8.params.toList ++ Rows.codecJoinsSpec.plain.varTypes Try.prog) (ds ++ gs)).all (· ≤ reachBytes) = true := hsz0
  have hW' := hW
  obtain ⟨p, q, hA0, hV, rfl, hfz, hnd⟩ := hW
  have hA : DataW.TrodAll enc Try.prog W 0 (fun _ => true) true Try.f8.params.toList args.toList ds p := hA0
  rw [Try.params8] at hA hval hsz
  obtain ⟨v0, vs0, d0, ds0, p0, q0, hargs, rfl, rfl, h0, r0⟩ := trodAll_cons hA
  obtain ⟨rfl, rfl, rfl⟩ := trodAll_nil r0
  obtain rfl : args = #[v0] := by cases args; simp_all
  obtain ⟨rfl, rfl⟩ := trodVars_none hV
  have k0 := h0
  have lt0 : ∀ x ∈ p0, x.block < W.heap.size := by obtain ⟨m, hm⟩ := k0; exact DataW.trod_lt m _ _ _ hm
  obtain ⟨a0, rfl, rfl, _, w0⟩ := open_string Try.underlying9 (hval 0 9 v0 rfl rfl) h0
  clear hA0 hval0
  refine (walk a0 w0 W).mono fun e W' ⟨he, bel⟩ => ?_
  subst he
  exact ⟨_, rfl, _, _, _, [], _, [], hW', trodAll_mk1 (shut_bool Try.underlying4 _), (trodAll_cons_mk (Below.trod laidOut (by kernel_rfl) (of_decide_eq_true (by kernel_rfl)) k0 bel lt0) trodAll_mk0), rfl, bel.frame _, fun h => by cases h⟩

theorem over : Rows.codecJoinsRow.holds Try.pinned (OpenSpec.ofChange Rows.codecJoinsSpec) :=
  OpenClaim.holds_of_wide 8 Try.f8 rfl rfl rfl rfl rfl rfl rfl ⟨rfl, rfl, rfl, rfl, rfl⟩ rfl rfl rfl rfl rfl (by kernel_rfl) Try.func8 (by kernel_rfl)
    (of_decide_eq_true (by kernel_rfl)) (by unfold Func.isWrapper; rw [if_neg (of_decide_eq_false (by kernel_rfl))]; exact ⟨rfl, rfl⟩)
    (fun os started H enc _ => lifted os started H enc)

theorem proved : Rows.CodecJoinsSaid :=
  over

end Go.Proofs.Ytickdmalkmgkiaa.codecJoins
